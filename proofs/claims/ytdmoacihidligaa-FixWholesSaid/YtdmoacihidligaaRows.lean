/-
  No cell of these rows narrows 'for every input' (looked for: loops, veiled, ifaces, maps, wideKeys, modest, calm, conditions, laid).
  DERIVED. THE GIVEN ROWS OF THIS SEAT. 9 by the template 'for every input the law returns true; each argument reads behind the call as it read before'; 0 by the template 'total and deterministic' (their statements: YtdmoacihidligaaTotals.lean).
  GIVEN WITH THE SEED: the statements are not yours to turn. If you find one false, say at which input.
  Laid BY PROGRAM, IN A SANDBOX (cutbox-rows.mjs): the forced cells as the released guide's own fill.sh prints them over the translation c9d62e03f41734af… (all of the seat's roots in one cut). By AI agents, Wed Nov 11 2026. No macro, syntax, notation, axiom, sorry.
-/
import Derived.Test.YtdmoacihidligaaChecked
import GoSem.Claim
import GoSem.ClaimJoined
import GoSem.ClaimMapViews
import Derived.JoinedTies
import Derived.KernelRfl
namespace Go.Proofs.Ytdmoacihidligaa
/- THE CELL 'sum', in the pinned program and in every row, IS THE sha256 OF THE DUMP (.gsa) THAT YtdmoacihidligaaProg.lean LOADS. Nothing in Lean hashes anything: it is a label: what it is worth is what the hold of that sum in a sandbox is worth. -/
noncomputable def Try.pinned : Pinned := { name := "ytdmoacihidligaa", sum := "c9d62e03f41734af629a387866dc5d7e676827f8f863b589eca3edf6ec957a8f", checked := Try.checked }
namespace Rows
def none {H : Type} : Left H := { results := [], args := [] }

/-- 'treadmilllaw1.FixParts': WHATEVER THE INPUT: true; the input reads as it did. -/
def fixPartsSpec : ChangeSpec := { name := "fixParts", fn := fun _ => fun
  | [d1, d2] => { results := [.lit (.bool true)], args := [d1, d2] }
  | _ => none }
def fixPartsRow : OpenClaim := { program := "ytdmoacihidligaa", sum := "c9d62e03f41734af629a387866dc5d7e676827f8f863b589eca3edf6ec957a8f", func := "treadmill/treadmilllaw1.FixParts", spec := "fixParts", inPlace := ["math/bits.Add64", "math.archFloor", "math.Float64bits", "math.Float64frombits", "math.archTrunc"], named := ["math/bits.divideError", "math/bits.overflowError"], apart := false }
def FixPartsSaid : Prop := fixPartsRow.holds Try.pinned (OpenSpec.ofChange fixPartsSpec)

/-- ITS FALSE NEIGHBOUR: 'it returns false'. Refute it at one input. -/
def fixPartsWrong : ChangeSpec := { name := "fixParts", fn := fun _ => fun
  | [d1, d2] => { results := [.lit (.bool false)], args := [d1, d2] }
  | _ => none }
def FixPartsWrongFalsely : Prop := fixPartsRow.holds Try.pinned (OpenSpec.ofChange fixPartsWrong)

/-- 'treadmilllaw1.FixWhole': WHATEVER THE INPUT: true; the input reads as it did. -/
def fixWholeSpec : ChangeSpec := { name := "fixWhole", fn := fun _ => fun
  | [d1, d2] => { results := [.lit (.bool true)], args := [d1, d2] }
  | _ => none }
def fixWholeRow : OpenClaim := { program := "ytdmoacihidligaa", sum := "c9d62e03f41734af629a387866dc5d7e676827f8f863b589eca3edf6ec957a8f", func := "treadmill/treadmilllaw1.FixWhole", spec := "fixWhole", inPlace := ["math/bits.Add64", "math.archFloor", "math.Float64bits", "math.Float64frombits", "math.archTrunc"], named := ["math/bits.divideError", "math/bits.overflowError"], apart := false }
def FixWholeSaid : Prop := fixWholeRow.holds Try.pinned (OpenSpec.ofChange fixWholeSpec)

/-- ITS FALSE NEIGHBOUR: 'it returns false'. Refute it at one input. -/
def fixWholeWrong : ChangeSpec := { name := "fixWhole", fn := fun _ => fun
  | [d1, d2] => { results := [.lit (.bool false)], args := [d1, d2] }
  | _ => none }
def FixWholeWrongFalsely : Prop := fixWholeRow.holds Try.pinned (OpenSpec.ofChange fixWholeWrong)

/-- 'treadmilllaw1.FixFloats': WHATEVER THE INPUT: true; the input reads as it did. -/
def fixFloatsSpec : ChangeSpec := { name := "fixFloats", fn := fun _ => fun
  | [d1, d2] => { results := [.lit (.bool true)], args := [d1, d2] }
  | _ => none }
def fixFloatsRow : OpenClaim := { program := "ytdmoacihidligaa", sum := "c9d62e03f41734af629a387866dc5d7e676827f8f863b589eca3edf6ec957a8f", func := "treadmill/treadmilllaw1.FixFloats", spec := "fixFloats", inPlace := ["math/bits.Add64", "math.archFloor", "math.Float64bits", "math.Float64frombits", "math.archTrunc"], named := ["math/bits.divideError", "math/bits.overflowError"], apart := false }
def FixFloatsSaid : Prop := fixFloatsRow.holds Try.pinned (OpenSpec.ofChange fixFloatsSpec)

/-- ITS FALSE NEIGHBOUR: 'it returns false'. Refute it at one input. -/
def fixFloatsWrong : ChangeSpec := { name := "fixFloats", fn := fun _ => fun
  | [d1, d2] => { results := [.lit (.bool false)], args := [d1, d2] }
  | _ => none }
def FixFloatsWrongFalsely : Prop := fixFloatsRow.holds Try.pinned (OpenSpec.ofChange fixFloatsWrong)

/-- 'treadmilllaw1.FixBack': WHATEVER THE INPUT: true; the input reads as it did. -/
def fixBackSpec : ChangeSpec := { name := "fixBack", fn := fun _ => fun
  | [d1, d2, d3] => { results := [.lit (.bool true)], args := [d1, d2, d3] }
  | _ => none }
def fixBackRow : OpenClaim := { program := "ytdmoacihidligaa", sum := "c9d62e03f41734af629a387866dc5d7e676827f8f863b589eca3edf6ec957a8f", func := "treadmill/treadmilllaw1.FixBack", spec := "fixBack", inPlace := ["math/bits.Add64", "math.archFloor", "math.Float64bits", "math.Float64frombits", "math.archTrunc"], named := ["math/bits.divideError", "math/bits.overflowError"], apart := false }
def FixBackSaid : Prop := fixBackRow.holds Try.pinned (OpenSpec.ofChange fixBackSpec)

/-- ITS FALSE NEIGHBOUR: 'it returns false'. Refute it at one input. -/
def fixBackWrong : ChangeSpec := { name := "fixBack", fn := fun _ => fun
  | [d1, d2, d3] => { results := [.lit (.bool false)], args := [d1, d2, d3] }
  | _ => none }
def FixBackWrongFalsely : Prop := fixBackRow.holds Try.pinned (OpenSpec.ofChange fixBackWrong)

/-- 'treadmilllaw1.FixHalves': WHATEVER THE INPUT: true; the input reads as it did. -/
def fixHalvesSpec : ChangeSpec := { name := "fixHalves", fn := fun _ => fun
  | [d] => { results := [.lit (.bool true)], args := [d] }
  | _ => none }
def fixHalvesRow : OpenClaim := { program := "ytdmoacihidligaa", sum := "c9d62e03f41734af629a387866dc5d7e676827f8f863b589eca3edf6ec957a8f", func := "treadmill/treadmilllaw1.FixHalves", spec := "fixHalves", inPlace := ["math/bits.Add64", "math.archFloor", "math.Float64bits", "math.Float64frombits", "math.archTrunc"], named := ["math/bits.divideError", "math/bits.overflowError"], apart := false }
def FixHalvesSaid : Prop := fixHalvesRow.holds Try.pinned (OpenSpec.ofChange fixHalvesSpec)

/-- ITS FALSE NEIGHBOUR: 'it returns false'. Refute it at one input. -/
def fixHalvesWrong : ChangeSpec := { name := "fixHalves", fn := fun _ => fun
  | [d] => { results := [.lit (.bool false)], args := [d] }
  | _ => none }
def FixHalvesWrongFalsely : Prop := fixHalvesRow.holds Try.pinned (OpenSpec.ofChange fixHalvesWrong)

/-- 'treadmilllaw1.FixWholes': WHATEVER THE INPUT: true; the input reads as it did. -/
def fixWholesSpec : ChangeSpec := { name := "fixWholes", fn := fun _ => fun
  | [d1, d2] => { results := [.lit (.bool true)], args := [d1, d2] }
  | _ => none }
def fixWholesRow : OpenClaim := { program := "ytdmoacihidligaa", sum := "c9d62e03f41734af629a387866dc5d7e676827f8f863b589eca3edf6ec957a8f", func := "treadmill/treadmilllaw1.FixWholes", spec := "fixWholes", inPlace := ["math/bits.Add64", "math.archFloor", "math.Float64bits", "math.Float64frombits", "math.archTrunc"], named := ["math/bits.divideError", "math/bits.overflowError"], apart := false }
def FixWholesSaid : Prop := fixWholesRow.holds Try.pinned (OpenSpec.ofChange fixWholesSpec)

/-- ITS FALSE NEIGHBOUR: 'it returns false'. Refute it at one input. -/
def fixWholesWrong : ChangeSpec := { name := "fixWholes", fn := fun _ => fun
  | [d1, d2] => { results := [.lit (.bool false)], args := [d1, d2] }
  | _ => none }
def FixWholesWrongFalsely : Prop := fixWholesRow.holds Try.pinned (OpenSpec.ofChange fixWholesWrong)

/-- 'treadmilllaw1.FixSums': WHATEVER THE INPUT: true; the input reads as it did. -/
def fixSumsSpec : ChangeSpec := { name := "fixSums", fn := fun _ => fun
  | [d1, d2] => { results := [.lit (.bool true)], args := [d1, d2] }
  | _ => none }
def fixSumsRow : OpenClaim := { program := "ytdmoacihidligaa", sum := "c9d62e03f41734af629a387866dc5d7e676827f8f863b589eca3edf6ec957a8f", func := "treadmill/treadmilllaw1.FixSums", spec := "fixSums", inPlace := ["math/bits.Add64", "math.archFloor", "math.Float64bits", "math.Float64frombits", "math.archTrunc"], named := ["math/bits.divideError", "math/bits.overflowError"], apart := false }
def FixSumsSaid : Prop := fixSumsRow.holds Try.pinned (OpenSpec.ofChange fixSumsSpec)

/-- ITS FALSE NEIGHBOUR: 'it returns false'. Refute it at one input. -/
def fixSumsWrong : ChangeSpec := { name := "fixSums", fn := fun _ => fun
  | [d1, d2] => { results := [.lit (.bool false)], args := [d1, d2] }
  | _ => none }
def FixSumsWrongFalsely : Prop := fixSumsRow.holds Try.pinned (OpenSpec.ofChange fixSumsWrong)

/-- 'treadmilllaw1.FixOrder': WHATEVER THE INPUT: true; the input reads as it did. -/
def fixOrderSpec : ChangeSpec := { name := "fixOrder", fn := fun _ => fun
  | [d1, d2, d3] => { results := [.lit (.bool true)], args := [d1, d2, d3] }
  | _ => none }
def fixOrderRow : OpenClaim := { program := "ytdmoacihidligaa", sum := "c9d62e03f41734af629a387866dc5d7e676827f8f863b589eca3edf6ec957a8f", func := "treadmill/treadmilllaw1.FixOrder", spec := "fixOrder", inPlace := ["math/bits.Add64", "math.archFloor", "math.Float64bits", "math.Float64frombits", "math.archTrunc"], named := ["math/bits.divideError", "math/bits.overflowError"], apart := false }
def FixOrderSaid : Prop := fixOrderRow.holds Try.pinned (OpenSpec.ofChange fixOrderSpec)

/-- ITS FALSE NEIGHBOUR: 'it returns false'. Refute it at one input. -/
def fixOrderWrong : ChangeSpec := { name := "fixOrder", fn := fun _ => fun
  | [d1, d2, d3] => { results := [.lit (.bool false)], args := [d1, d2, d3] }
  | _ => none }
def FixOrderWrongFalsely : Prop := fixOrderRow.holds Try.pinned (OpenSpec.ofChange fixOrderWrong)

/-- 'treadmilllaw1.FixEnds': WHATEVER THE INPUT: true; the input reads as it did. -/
def fixEndsSpec : ChangeSpec := { name := "fixEnds", fn := fun _ => fun
  | [d1, d2] => { results := [.lit (.bool true)], args := [d1, d2] }
  | _ => none }
def fixEndsRow : OpenClaim := { program := "ytdmoacihidligaa", sum := "c9d62e03f41734af629a387866dc5d7e676827f8f863b589eca3edf6ec957a8f", func := "treadmill/treadmilllaw1.FixEnds", spec := "fixEnds", inPlace := ["math/bits.Add64", "math.archFloor", "math.Float64bits", "math.Float64frombits", "math.archTrunc"], named := ["math/bits.divideError", "math/bits.overflowError"], apart := false }
def FixEndsSaid : Prop := fixEndsRow.holds Try.pinned (OpenSpec.ofChange fixEndsSpec)

/-- ITS FALSE NEIGHBOUR: 'it returns false'. Refute it at one input. -/
def fixEndsWrong : ChangeSpec := { name := "fixEnds", fn := fun _ => fun
  | [d1, d2] => { results := [.lit (.bool false)], args := [d1, d2] }
  | _ => none }
def FixEndsWrongFalsely : Prop := fixEndsRow.holds Try.pinned (OpenSpec.ofChange fixEndsWrong)

/- THE SECOND FORM. 'bulk': how many values and letters a reading holds, each counted each time it is reached (what is shared counts as often as it is met; a slice's spare places count too). A statement '..UptoSaid' is the law's where the arguments, and the package variables that the reading takes, are together of bulk at most 1048576: NARROWER than '..Said'. Prove '..Said' where nothing that the law and all that it calls make is longer than what came in: it says more and counts as full. Else prove '..UptoSaid'. A law counts once. -/
mutual
def uptoBulk {H : Type} : DataW H → Nat
  | .lit (.string bytes) => bytes.length + 1
  | .lit _ => 1
  | .nil => 1
  | .ptr d => uptoBulk d + 1
  | .slice elems spare => uptoBulkAll elems + uptoBulkAll spare + 1
  | .agg parts => uptoBulkAll parts + 1
  | .iface _ d => uptoBulk d + 1
  | .map entries => uptoBulkEntries entries + 1
  | .held _ => 1
def uptoBulkAll {H : Type} : List (DataW H) → Nat
  | [] => 0
  | d :: r => uptoBulk d + uptoBulkAll r
def uptoBulkEntries {H : Type} : List (Lit × DataW H) → Nat
  | [] => 0
  | x :: r => uptoBulkEntry x + uptoBulkEntries r
def uptoBulkEntry {H : Type} : Lit × DataW H → Nat
  | (.string bytes, d) => bytes.length + uptoBulk d + 1
  | (_, d) => uptoBulk d + 1
 end
def uptoSmall : (H : Type) → List (DataW H) → Bool := fun _ ds => decide (uptoBulkAll ds ≤ 1048576)
def OpenSpec.upto (s : _root_.Go.ChangeSpec) : _root_.Go.OpenSpec := { _root_.Go.OpenSpec.ofChange s with cond := some uptoSmall }

/-- 'treadmilllaw1.FixParts', WHERE WHAT IT READS IS OF BULK AT MOST 1048576: true; the input reads as it did. -/
def fixPartsUptoRow : OpenClaim := { program := "ytdmoacihidligaa", sum := "c9d62e03f41734af629a387866dc5d7e676827f8f863b589eca3edf6ec957a8f", func := "treadmill/treadmilllaw1.FixParts", spec := "fixParts", inPlace := ["math/bits.Add64", "math.archFloor", "math.Float64bits", "math.Float64frombits", "math.archTrunc"], named := ["math/bits.divideError", "math/bits.overflowError"], apart := false, narrowed := true }
def FixPartsUptoSaid : Prop := fixPartsUptoRow.holds Try.pinned (OpenSpec.upto fixPartsSpec)

/-- 'treadmilllaw1.FixWhole', WHERE WHAT IT READS IS OF BULK AT MOST 1048576: true; the input reads as it did. -/
def fixWholeUptoRow : OpenClaim := { program := "ytdmoacihidligaa", sum := "c9d62e03f41734af629a387866dc5d7e676827f8f863b589eca3edf6ec957a8f", func := "treadmill/treadmilllaw1.FixWhole", spec := "fixWhole", inPlace := ["math/bits.Add64", "math.archFloor", "math.Float64bits", "math.Float64frombits", "math.archTrunc"], named := ["math/bits.divideError", "math/bits.overflowError"], apart := false, narrowed := true }
def FixWholeUptoSaid : Prop := fixWholeUptoRow.holds Try.pinned (OpenSpec.upto fixWholeSpec)

/-- 'treadmilllaw1.FixFloats', WHERE WHAT IT READS IS OF BULK AT MOST 1048576: true; the input reads as it did. -/
def fixFloatsUptoRow : OpenClaim := { program := "ytdmoacihidligaa", sum := "c9d62e03f41734af629a387866dc5d7e676827f8f863b589eca3edf6ec957a8f", func := "treadmill/treadmilllaw1.FixFloats", spec := "fixFloats", inPlace := ["math/bits.Add64", "math.archFloor", "math.Float64bits", "math.Float64frombits", "math.archTrunc"], named := ["math/bits.divideError", "math/bits.overflowError"], apart := false, narrowed := true }
def FixFloatsUptoSaid : Prop := fixFloatsUptoRow.holds Try.pinned (OpenSpec.upto fixFloatsSpec)

/-- 'treadmilllaw1.FixBack', WHERE WHAT IT READS IS OF BULK AT MOST 1048576: true; the input reads as it did. -/
def fixBackUptoRow : OpenClaim := { program := "ytdmoacihidligaa", sum := "c9d62e03f41734af629a387866dc5d7e676827f8f863b589eca3edf6ec957a8f", func := "treadmill/treadmilllaw1.FixBack", spec := "fixBack", inPlace := ["math/bits.Add64", "math.archFloor", "math.Float64bits", "math.Float64frombits", "math.archTrunc"], named := ["math/bits.divideError", "math/bits.overflowError"], apart := false, narrowed := true }
def FixBackUptoSaid : Prop := fixBackUptoRow.holds Try.pinned (OpenSpec.upto fixBackSpec)

/-- 'treadmilllaw1.FixHalves', WHERE WHAT IT READS IS OF BULK AT MOST 1048576: true; the input reads as it did. -/
def fixHalvesUptoRow : OpenClaim := { program := "ytdmoacihidligaa", sum := "c9d62e03f41734af629a387866dc5d7e676827f8f863b589eca3edf6ec957a8f", func := "treadmill/treadmilllaw1.FixHalves", spec := "fixHalves", inPlace := ["math/bits.Add64", "math.archFloor", "math.Float64bits", "math.Float64frombits", "math.archTrunc"], named := ["math/bits.divideError", "math/bits.overflowError"], apart := false, narrowed := true }
def FixHalvesUptoSaid : Prop := fixHalvesUptoRow.holds Try.pinned (OpenSpec.upto fixHalvesSpec)

/-- 'treadmilllaw1.FixWholes', WHERE WHAT IT READS IS OF BULK AT MOST 1048576: true; the input reads as it did. -/
def fixWholesUptoRow : OpenClaim := { program := "ytdmoacihidligaa", sum := "c9d62e03f41734af629a387866dc5d7e676827f8f863b589eca3edf6ec957a8f", func := "treadmill/treadmilllaw1.FixWholes", spec := "fixWholes", inPlace := ["math/bits.Add64", "math.archFloor", "math.Float64bits", "math.Float64frombits", "math.archTrunc"], named := ["math/bits.divideError", "math/bits.overflowError"], apart := false, narrowed := true }
def FixWholesUptoSaid : Prop := fixWholesUptoRow.holds Try.pinned (OpenSpec.upto fixWholesSpec)

/-- 'treadmilllaw1.FixSums', WHERE WHAT IT READS IS OF BULK AT MOST 1048576: true; the input reads as it did. -/
def fixSumsUptoRow : OpenClaim := { program := "ytdmoacihidligaa", sum := "c9d62e03f41734af629a387866dc5d7e676827f8f863b589eca3edf6ec957a8f", func := "treadmill/treadmilllaw1.FixSums", spec := "fixSums", inPlace := ["math/bits.Add64", "math.archFloor", "math.Float64bits", "math.Float64frombits", "math.archTrunc"], named := ["math/bits.divideError", "math/bits.overflowError"], apart := false, narrowed := true }
def FixSumsUptoSaid : Prop := fixSumsUptoRow.holds Try.pinned (OpenSpec.upto fixSumsSpec)

/-- 'treadmilllaw1.FixOrder', WHERE WHAT IT READS IS OF BULK AT MOST 1048576: true; the input reads as it did. -/
def fixOrderUptoRow : OpenClaim := { program := "ytdmoacihidligaa", sum := "c9d62e03f41734af629a387866dc5d7e676827f8f863b589eca3edf6ec957a8f", func := "treadmill/treadmilllaw1.FixOrder", spec := "fixOrder", inPlace := ["math/bits.Add64", "math.archFloor", "math.Float64bits", "math.Float64frombits", "math.archTrunc"], named := ["math/bits.divideError", "math/bits.overflowError"], apart := false, narrowed := true }
def FixOrderUptoSaid : Prop := fixOrderUptoRow.holds Try.pinned (OpenSpec.upto fixOrderSpec)

/-- 'treadmilllaw1.FixEnds', WHERE WHAT IT READS IS OF BULK AT MOST 1048576: true; the input reads as it did. -/
def fixEndsUptoRow : OpenClaim := { program := "ytdmoacihidligaa", sum := "c9d62e03f41734af629a387866dc5d7e676827f8f863b589eca3edf6ec957a8f", func := "treadmill/treadmilllaw1.FixEnds", spec := "fixEnds", inPlace := ["math/bits.Add64", "math.archFloor", "math.Float64bits", "math.Float64frombits", "math.archTrunc"], named := ["math/bits.divideError", "math/bits.overflowError"], apart := false, narrowed := true }
def FixEndsUptoSaid : Prop := fixEndsUptoRow.holds Try.pinned (OpenSpec.upto fixEndsSpec)

end Rows
end Go.Proofs.Ytdmoacihidligaa
