/-
  No cell of these rows narrows 'for every input' (looked for: loops, veiled, ifaces, maps, wideKeys, modest, calm, conditions, laid).
  DERIVED. THE GIVEN ROWS OF THIS SEAT. 4 by the template 'for every input the law returns true; each argument reads behind the call as it read before'; 0 by the template 'total and deterministic' (their statements: YtejddpkilimfbaaTotals.lean).
  GIVEN WITH THE SEED: the statements are not yours to turn. If you find one false, say at which input.
  Laid BY PROGRAM, IN A SANDBOX (cutbox-rows.mjs): the forced cells as the released guide's own fill.sh prints them over the translation e9e60114929fc0ff… (all of the seat's roots in one cut). By AI agents, Wed Nov 11 2026. No macro, syntax, notation, axiom, sorry.
-/
import Derived.Test.YtejddpkilimfbaaChecked
import GoSem.Claim
import GoSem.ClaimJoined
import GoSem.ClaimMapViews
import Derived.JoinedTies
import Derived.KernelRfl
namespace Go.Proofs.Ytejddpkilimfbaa
/- THE CELL 'sum', in the pinned program and in every row, IS THE sha256 OF THE DUMP (.gsa) THAT YtejddpkilimfbaaProg.lean LOADS. Nothing in Lean hashes anything: it is a label: what it is worth is what the hold of that sum in a sandbox is worth. -/
noncomputable def Try.pinned : Pinned := { name := "ytejddpkilimfbaa", sum := "e9e60114929fc0ff01f56999c0c41aa3a5ed725803739badf1e300ae2a9ed610", checked := Try.checked }
namespace Rows
def none {H : Type} : Left H := { results := [], args := [] }

/-- 'treadmilllaw24.ShareWorkers': WHATEVER THE INPUT: true; the input reads as it did. -/
def shareWorkersSpec : ChangeSpec := { name := "shareWorkers", fn := fun _ => fun
  | [d1, d2, d3, d4, d5] => { results := [.lit (.bool true)], args := [d1, d2, d3, d4, d5] }
  | _ => none }
def shareWorkersRow : OpenClaim := { program := "ytejddpkilimfbaa", sum := "e9e60114929fc0ff01f56999c0c41aa3a5ed725803739badf1e300ae2a9ed610", func := "treadmill/treadmilllaw24.ShareWorkers", spec := "shareWorkers", inPlace := ["math/bits.Add64"], unfollowed := true, recurses := true, named := ["math/bits.divideError", "math/bits.overflowError"], apart := false }
def ShareWorkersSaid : Prop := shareWorkersRow.holds Try.pinned (OpenSpec.ofChange shareWorkersSpec)

/-- ITS FALSE NEIGHBOUR: 'it returns false'. Refute it at one input. -/
def shareWorkersWrong : ChangeSpec := { name := "shareWorkers", fn := fun _ => fun
  | [d1, d2, d3, d4, d5] => { results := [.lit (.bool false)], args := [d1, d2, d3, d4, d5] }
  | _ => none }
def ShareWorkersWrongFalsely : Prop := shareWorkersRow.holds Try.pinned (OpenSpec.ofChange shareWorkersWrong)

/-- 'treadmilllaw24.ShareParts': WHATEVER THE INPUT: true; the input reads as it did. -/
def sharePartsSpec : ChangeSpec := { name := "shareParts", fn := fun _ => fun
  | [d1, d2] => { results := [.lit (.bool true)], args := [d1, d2] }
  | _ => none }
def sharePartsRow : OpenClaim := { program := "ytejddpkilimfbaa", sum := "e9e60114929fc0ff01f56999c0c41aa3a5ed725803739badf1e300ae2a9ed610", func := "treadmill/treadmilllaw24.ShareParts", spec := "shareParts", inPlace := ["math/bits.Add64"], unfollowed := true, recurses := true, named := ["math/bits.divideError", "math/bits.overflowError"], apart := false }
def SharePartsSaid : Prop := sharePartsRow.holds Try.pinned (OpenSpec.ofChange sharePartsSpec)

/-- ITS FALSE NEIGHBOUR: 'it returns false'. Refute it at one input. -/
def sharePartsWrong : ChangeSpec := { name := "shareParts", fn := fun _ => fun
  | [d1, d2] => { results := [.lit (.bool false)], args := [d1, d2] }
  | _ => none }
def SharePartsWrongFalsely : Prop := sharePartsRow.holds Try.pinned (OpenSpec.ofChange sharePartsWrong)

/-- 'treadmilllaw24.ShareKeeps': WHATEVER THE INPUT: true; the input reads as it did. -/
def shareKeepsSpec : ChangeSpec := { name := "shareKeeps", fn := fun _ => fun
  | [d1, d2] => { results := [.lit (.bool true)], args := [d1, d2] }
  | _ => none }
def shareKeepsRow : OpenClaim := { program := "ytejddpkilimfbaa", sum := "e9e60114929fc0ff01f56999c0c41aa3a5ed725803739badf1e300ae2a9ed610", func := "treadmill/treadmilllaw24.ShareKeeps", spec := "shareKeeps", inPlace := ["math/bits.Add64"], unfollowed := true, recurses := true, named := ["math/bits.divideError", "math/bits.overflowError"], apart := false }
def ShareKeepsSaid : Prop := shareKeepsRow.holds Try.pinned (OpenSpec.ofChange shareKeepsSpec)

/-- ITS FALSE NEIGHBOUR: 'it returns false'. Refute it at one input. -/
def shareKeepsWrong : ChangeSpec := { name := "shareKeeps", fn := fun _ => fun
  | [d1, d2] => { results := [.lit (.bool false)], args := [d1, d2] }
  | _ => none }
def ShareKeepsWrongFalsely : Prop := shareKeepsRow.holds Try.pinned (OpenSpec.ofChange shareKeepsWrong)

/-- 'treadmilllaw24.ShareDedicates': WHATEVER THE INPUT: true; the input reads as it did. -/
def shareDedicatesSpec : ChangeSpec := { name := "shareDedicates", fn := fun _ => fun
  | [d1, d2, d3] => { results := [.lit (.bool true)], args := [d1, d2, d3] }
  | _ => none }
def shareDedicatesRow : OpenClaim := { program := "ytejddpkilimfbaa", sum := "e9e60114929fc0ff01f56999c0c41aa3a5ed725803739badf1e300ae2a9ed610", func := "treadmill/treadmilllaw24.ShareDedicates", spec := "shareDedicates", inPlace := ["math/bits.Add64"], unfollowed := true, recurses := true, named := ["math/bits.divideError", "math/bits.overflowError"], apart := false }
def ShareDedicatesSaid : Prop := shareDedicatesRow.holds Try.pinned (OpenSpec.ofChange shareDedicatesSpec)

/-- ITS FALSE NEIGHBOUR: 'it returns false'. Refute it at one input. -/
def shareDedicatesWrong : ChangeSpec := { name := "shareDedicates", fn := fun _ => fun
  | [d1, d2, d3] => { results := [.lit (.bool false)], args := [d1, d2, d3] }
  | _ => none }
def ShareDedicatesWrongFalsely : Prop := shareDedicatesRow.holds Try.pinned (OpenSpec.ofChange shareDedicatesWrong)

/- THE SECOND FORM. 'bulk': how many values and letters a reading holds, each counted each time it is reached (what is shared counts as often as it is met; a slice's spare places count too). A statement '..UptoSaid' is the law's where the arguments, and the package variables that the reading takes, are together of bulk at most 1048576: NARROWER than '..Said'. Prove '..Said' where nothing that the law and all that it calls make is longer than what came in: it says more and counts as full. Else prove '..UptoSaid'. A law counts once. -/
mutual
def uptoBulk {H : Type} : DataW H → Nat
  | .lit (.string bytes) => bytes.length + 1
  | .lit _ => 1
  | .nil => 1
  | .ptr d => uptoBulk d + 1
  | .slice elems spare => uptoBulkAll elems + uptoBulkAll spare + 1
  | .agg parts => uptoBulkAll parts + 1
  | .iface _ d => uptoBulk d + 1
  | .map entries => uptoBulkEntries entries + 1
  | .held _ => 1
def uptoBulkAll {H : Type} : List (DataW H) → Nat
  | [] => 0
  | d :: r => uptoBulk d + uptoBulkAll r
def uptoBulkEntries {H : Type} : List (Lit × DataW H) → Nat
  | [] => 0
  | x :: r => uptoBulkEntry x + uptoBulkEntries r
def uptoBulkEntry {H : Type} : Lit × DataW H → Nat
  | (.string bytes, d) => bytes.length + uptoBulk d + 1
  | (_, d) => uptoBulk d + 1
 end
def uptoSmall : (H : Type) → List (DataW H) → Bool := fun _ ds => decide (uptoBulkAll ds ≤ 1048576)
def OpenSpec.upto (s : _root_.Go.ChangeSpec) : _root_.Go.OpenSpec := { _root_.Go.OpenSpec.ofChange s with cond := some uptoSmall }

/-- 'treadmilllaw24.ShareWorkers', WHERE WHAT IT READS IS OF BULK AT MOST 1048576: true; the input reads as it did. -/
def shareWorkersUptoRow : OpenClaim := { program := "ytejddpkilimfbaa", sum := "e9e60114929fc0ff01f56999c0c41aa3a5ed725803739badf1e300ae2a9ed610", func := "treadmill/treadmilllaw24.ShareWorkers", spec := "shareWorkers", inPlace := ["math/bits.Add64"], unfollowed := true, recurses := true, named := ["math/bits.divideError", "math/bits.overflowError"], apart := false, narrowed := true }
def ShareWorkersUptoSaid : Prop := shareWorkersUptoRow.holds Try.pinned (OpenSpec.upto shareWorkersSpec)

/-- 'treadmilllaw24.ShareParts', WHERE WHAT IT READS IS OF BULK AT MOST 1048576: true; the input reads as it did. -/
def sharePartsUptoRow : OpenClaim := { program := "ytejddpkilimfbaa", sum := "e9e60114929fc0ff01f56999c0c41aa3a5ed725803739badf1e300ae2a9ed610", func := "treadmill/treadmilllaw24.ShareParts", spec := "shareParts", inPlace := ["math/bits.Add64"], unfollowed := true, recurses := true, named := ["math/bits.divideError", "math/bits.overflowError"], apart := false, narrowed := true }
def SharePartsUptoSaid : Prop := sharePartsUptoRow.holds Try.pinned (OpenSpec.upto sharePartsSpec)

/-- 'treadmilllaw24.ShareKeeps', WHERE WHAT IT READS IS OF BULK AT MOST 1048576: true; the input reads as it did. -/
def shareKeepsUptoRow : OpenClaim := { program := "ytejddpkilimfbaa", sum := "e9e60114929fc0ff01f56999c0c41aa3a5ed725803739badf1e300ae2a9ed610", func := "treadmill/treadmilllaw24.ShareKeeps", spec := "shareKeeps", inPlace := ["math/bits.Add64"], unfollowed := true, recurses := true, named := ["math/bits.divideError", "math/bits.overflowError"], apart := false, narrowed := true }
def ShareKeepsUptoSaid : Prop := shareKeepsUptoRow.holds Try.pinned (OpenSpec.upto shareKeepsSpec)

/-- 'treadmilllaw24.ShareDedicates', WHERE WHAT IT READS IS OF BULK AT MOST 1048576: true; the input reads as it did. -/
def shareDedicatesUptoRow : OpenClaim := { program := "ytejddpkilimfbaa", sum := "e9e60114929fc0ff01f56999c0c41aa3a5ed725803739badf1e300ae2a9ed610", func := "treadmill/treadmilllaw24.ShareDedicates", spec := "shareDedicates", inPlace := ["math/bits.Add64"], unfollowed := true, recurses := true, named := ["math/bits.divideError", "math/bits.overflowError"], apart := false, narrowed := true }
def ShareDedicatesUptoSaid : Prop := shareDedicatesUptoRow.holds Try.pinned (OpenSpec.upto shareDedicatesSpec)

end Rows
end Go.Proofs.Ytejddpkilimfbaa
