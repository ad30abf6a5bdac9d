/-
  No cell of these rows narrows 'for every input' (looked for: loops, veiled, ifaces, maps, wideKeys, modest, calm, conditions, laid).
  DERIVED. THE GIVEN ROWS OF THIS SEAT. 6 by the template 'for every input the law returns true; each argument reads behind the call as it read before'; 0 by the template 'total and deterministic' (their statements: YtmajnjbjoagihaaTotals.lean).
  GIVEN WITH THE SEED: the statements are not yours to turn. If you find one false, say at which input.
  Laid BY PROGRAM, IN A SANDBOX (cutbox-rows.mjs): the forced cells as the released guide's own fill.sh prints them over the translation e8eaa1ae4af2a7d5… (all of the seat's roots in one cut). By AI agents, Wed Nov 11 2026. No macro, syntax, notation, axiom, sorry.
-/
import Derived.Test.YtmajnjbjoagihaaChecked
import GoSem.Claim
import GoSem.ClaimJoined
import GoSem.ClaimMapViews
import Derived.JoinedTies
import Derived.KernelRfl
namespace Go.Proofs.Ytmajnjbjoagihaa
/- THE CELL 'sum', in the pinned program and in every row, IS THE sha256 OF THE DUMP (.gsa) THAT YtmajnjbjoagihaaProg.lean LOADS. Nothing in Lean hashes anything: it is a label: what it is worth is what the hold of that sum in a sandbox is worth. -/
noncomputable def Try.pinned : Pinned := { name := "ytmajnjbjoagihaa", sum := "e8eaa1ae4af2a7d587f6b602f6d0a9378db9a829716c975a7ad077067ba5820f", checked := Try.checked }
namespace Rows
def none {H : Type} : Left H := { results := [], args := [] }

/-- 'treadmilllaw15.CodeEarly': WHATEVER THE INPUT: true; the input reads as it did. -/
def codeEarlySpec : ChangeSpec := { name := "codeEarly", fn := fun _ => fun
  | [d1, d2, d3] => { results := [.lit (.bool true)], args := [d1, d2, d3] }
  | _ => none }
def codeEarlyRow : OpenClaim := { program := "ytmajnjbjoagihaa", sum := "e8eaa1ae4af2a7d587f6b602f6d0a9378db9a829716c975a7ad077067ba5820f", func := "treadmill/treadmilllaw15.CodeEarly", spec := "codeEarly", unfollowed := true, recurses := true, apart := false }
def CodeEarlySaid : Prop := codeEarlyRow.holds Try.pinned (OpenSpec.ofChange codeEarlySpec)

/-- ITS FALSE NEIGHBOUR: 'it returns false'. Refute it at one input. -/
def codeEarlyWrong : ChangeSpec := { name := "codeEarly", fn := fun _ => fun
  | [d1, d2, d3] => { results := [.lit (.bool false)], args := [d1, d2, d3] }
  | _ => none }
def CodeEarlyWrongFalsely : Prop := codeEarlyRow.holds Try.pinned (OpenSpec.ofChange codeEarlyWrong)

/-- 'treadmilllaw15.CodeDecodes': WHATEVER THE INPUT: true; the input reads as it did. -/
def codeDecodesSpec : ChangeSpec := { name := "codeDecodes", fn := fun _ => fun
  | [d] => { results := [.lit (.bool true)], args := [d] }
  | _ => none }
def codeDecodesRow : OpenClaim := { program := "ytmajnjbjoagihaa", sum := "e8eaa1ae4af2a7d587f6b602f6d0a9378db9a829716c975a7ad077067ba5820f", func := "treadmill/treadmilllaw15.CodeDecodes", spec := "codeDecodes", unfollowed := true, recurses := true, apart := false }
def CodeDecodesSaid : Prop := codeDecodesRow.holds Try.pinned (OpenSpec.ofChange codeDecodesSpec)

/-- ITS FALSE NEIGHBOUR: 'it returns false'. Refute it at one input. -/
def codeDecodesWrong : ChangeSpec := { name := "codeDecodes", fn := fun _ => fun
  | [d] => { results := [.lit (.bool false)], args := [d] }
  | _ => none }
def CodeDecodesWrongFalsely : Prop := codeDecodesRow.holds Try.pinned (OpenSpec.ofChange codeDecodesWrong)

/-- 'treadmilllaw15.CodeTurned': WHATEVER THE INPUT: true; the input reads as it did. -/
def codeTurnedSpec : ChangeSpec := { name := "codeTurned", fn := fun _ => fun
  | [d1, d2, d3, d4] => { results := [.lit (.bool true)], args := [d1, d2, d3, d4] }
  | _ => none }
def codeTurnedRow : OpenClaim := { program := "ytmajnjbjoagihaa", sum := "e8eaa1ae4af2a7d587f6b602f6d0a9378db9a829716c975a7ad077067ba5820f", func := "treadmill/treadmilllaw15.CodeTurned", spec := "codeTurned", unfollowed := true, recurses := true, apart := false }
def CodeTurnedSaid : Prop := codeTurnedRow.holds Try.pinned (OpenSpec.ofChange codeTurnedSpec)

/-- ITS FALSE NEIGHBOUR: 'it returns false'. Refute it at one input. -/
def codeTurnedWrong : ChangeSpec := { name := "codeTurned", fn := fun _ => fun
  | [d1, d2, d3, d4] => { results := [.lit (.bool false)], args := [d1, d2, d3, d4] }
  | _ => none }
def CodeTurnedWrongFalsely : Prop := codeTurnedRow.holds Try.pinned (OpenSpec.ofChange codeTurnedWrong)

/-- 'treadmilllaw15.CodeMays': WHATEVER THE INPUT: true; the input reads as it did. -/
def codeMaysSpec : ChangeSpec := { name := "codeMays", fn := fun _ => fun
  | [d] => { results := [.lit (.bool true)], args := [d] }
  | _ => none }
def codeMaysRow : OpenClaim := { program := "ytmajnjbjoagihaa", sum := "e8eaa1ae4af2a7d587f6b602f6d0a9378db9a829716c975a7ad077067ba5820f", func := "treadmill/treadmilllaw15.CodeMays", spec := "codeMays", unfollowed := true, recurses := true, apart := false }
def CodeMaysSaid : Prop := codeMaysRow.holds Try.pinned (OpenSpec.ofChange codeMaysSpec)

/-- ITS FALSE NEIGHBOUR: 'it returns false'. Refute it at one input. -/
def codeMaysWrong : ChangeSpec := { name := "codeMays", fn := fun _ => fun
  | [d] => { results := [.lit (.bool false)], args := [d] }
  | _ => none }
def CodeMaysWrongFalsely : Prop := codeMaysRow.holds Try.pinned (OpenSpec.ofChange codeMaysWrong)

/-- 'treadmilllaw15.CodeBack': WHATEVER THE INPUT: true; the input reads as it did. -/
def codeBackSpec : ChangeSpec := { name := "codeBack", fn := fun _ => fun
  | [d1, d2] => { results := [.lit (.bool true)], args := [d1, d2] }
  | _ => none }
def codeBackRow : OpenClaim := { program := "ytmajnjbjoagihaa", sum := "e8eaa1ae4af2a7d587f6b602f6d0a9378db9a829716c975a7ad077067ba5820f", func := "treadmill/treadmilllaw15.CodeBack", spec := "codeBack", unfollowed := true, recurses := true, apart := false }
def CodeBackSaid : Prop := codeBackRow.holds Try.pinned (OpenSpec.ofChange codeBackSpec)

/-- ITS FALSE NEIGHBOUR: 'it returns false'. Refute it at one input. -/
def codeBackWrong : ChangeSpec := { name := "codeBack", fn := fun _ => fun
  | [d1, d2] => { results := [.lit (.bool false)], args := [d1, d2] }
  | _ => none }
def CodeBackWrongFalsely : Prop := codeBackRow.holds Try.pinned (OpenSpec.ofChange codeBackWrong)

/-- 'treadmilllaw15.CodeBounds': WHATEVER THE INPUT: true; the input reads as it did. -/
def codeBoundsSpec : ChangeSpec := { name := "codeBounds", fn := fun _ => fun
  | [d1, d2, d3, d4, d5] => { results := [.lit (.bool true)], args := [d1, d2, d3, d4, d5] }
  | _ => none }
def codeBoundsRow : OpenClaim := { program := "ytmajnjbjoagihaa", sum := "e8eaa1ae4af2a7d587f6b602f6d0a9378db9a829716c975a7ad077067ba5820f", func := "treadmill/treadmilllaw15.CodeBounds", spec := "codeBounds", unfollowed := true, recurses := true, apart := false }
def CodeBoundsSaid : Prop := codeBoundsRow.holds Try.pinned (OpenSpec.ofChange codeBoundsSpec)

/-- ITS FALSE NEIGHBOUR: 'it returns false'. Refute it at one input. -/
def codeBoundsWrong : ChangeSpec := { name := "codeBounds", fn := fun _ => fun
  | [d1, d2, d3, d4, d5] => { results := [.lit (.bool false)], args := [d1, d2, d3, d4, d5] }
  | _ => none }
def CodeBoundsWrongFalsely : Prop := codeBoundsRow.holds Try.pinned (OpenSpec.ofChange codeBoundsWrong)

/- THE SECOND FORM. 'bulk': how many values and letters a reading holds, each counted each time it is reached (what is shared counts as often as it is met; a slice's spare places count too). A statement '..UptoSaid' is the law's where the arguments, and the package variables that the reading takes, are together of bulk at most 1048576: NARROWER than '..Said'. Prove '..Said' where nothing that the law and all that it calls make is longer than what came in: it says more and counts as full. Else prove '..UptoSaid'. A law counts once. -/
mutual
def uptoBulk {H : Type} : DataW H → Nat
  | .lit (.string bytes) => bytes.length + 1
  | .lit _ => 1
  | .nil => 1
  | .ptr d => uptoBulk d + 1
  | .slice elems spare => uptoBulkAll elems + uptoBulkAll spare + 1
  | .agg parts => uptoBulkAll parts + 1
  | .iface _ d => uptoBulk d + 1
  | .map entries => uptoBulkEntries entries + 1
  | .held _ => 1
def uptoBulkAll {H : Type} : List (DataW H) → Nat
  | [] => 0
  | d :: r => uptoBulk d + uptoBulkAll r
def uptoBulkEntries {H : Type} : List (Lit × DataW H) → Nat
  | [] => 0
  | x :: r => uptoBulkEntry x + uptoBulkEntries r
def uptoBulkEntry {H : Type} : Lit × DataW H → Nat
  | (.string bytes, d) => bytes.length + uptoBulk d + 1
  | (_, d) => uptoBulk d + 1
 end
def uptoSmall : (H : Type) → List (DataW H) → Bool := fun _ ds => decide (uptoBulkAll ds ≤ 1048576)
def OpenSpec.upto (s : _root_.Go.ChangeSpec) : _root_.Go.OpenSpec := { _root_.Go.OpenSpec.ofChange s with cond := some uptoSmall }

/-- 'treadmilllaw15.CodeEarly', WHERE WHAT IT READS IS OF BULK AT MOST 1048576: true; the input reads as it did. -/
def codeEarlyUptoRow : OpenClaim := { program := "ytmajnjbjoagihaa", sum := "e8eaa1ae4af2a7d587f6b602f6d0a9378db9a829716c975a7ad077067ba5820f", func := "treadmill/treadmilllaw15.CodeEarly", spec := "codeEarly", unfollowed := true, recurses := true, apart := false, narrowed := true }
def CodeEarlyUptoSaid : Prop := codeEarlyUptoRow.holds Try.pinned (OpenSpec.upto codeEarlySpec)

/-- 'treadmilllaw15.CodeDecodes', WHERE WHAT IT READS IS OF BULK AT MOST 1048576: true; the input reads as it did. -/
def codeDecodesUptoRow : OpenClaim := { program := "ytmajnjbjoagihaa", sum := "e8eaa1ae4af2a7d587f6b602f6d0a9378db9a829716c975a7ad077067ba5820f", func := "treadmill/treadmilllaw15.CodeDecodes", spec := "codeDecodes", unfollowed := true, recurses := true, apart := false, narrowed := true }
def CodeDecodesUptoSaid : Prop := codeDecodesUptoRow.holds Try.pinned (OpenSpec.upto codeDecodesSpec)

/-- 'treadmilllaw15.CodeTurned', WHERE WHAT IT READS IS OF BULK AT MOST 1048576: true; the input reads as it did. -/
def codeTurnedUptoRow : OpenClaim := { program := "ytmajnjbjoagihaa", sum := "e8eaa1ae4af2a7d587f6b602f6d0a9378db9a829716c975a7ad077067ba5820f", func := "treadmill/treadmilllaw15.CodeTurned", spec := "codeTurned", unfollowed := true, recurses := true, apart := false, narrowed := true }
def CodeTurnedUptoSaid : Prop := codeTurnedUptoRow.holds Try.pinned (OpenSpec.upto codeTurnedSpec)

/-- 'treadmilllaw15.CodeMays', WHERE WHAT IT READS IS OF BULK AT MOST 1048576: true; the input reads as it did. -/
def codeMaysUptoRow : OpenClaim := { program := "ytmajnjbjoagihaa", sum := "e8eaa1ae4af2a7d587f6b602f6d0a9378db9a829716c975a7ad077067ba5820f", func := "treadmill/treadmilllaw15.CodeMays", spec := "codeMays", unfollowed := true, recurses := true, apart := false, narrowed := true }
def CodeMaysUptoSaid : Prop := codeMaysUptoRow.holds Try.pinned (OpenSpec.upto codeMaysSpec)

/-- 'treadmilllaw15.CodeBack', WHERE WHAT IT READS IS OF BULK AT MOST 1048576: true; the input reads as it did. -/
def codeBackUptoRow : OpenClaim := { program := "ytmajnjbjoagihaa", sum := "e8eaa1ae4af2a7d587f6b602f6d0a9378db9a829716c975a7ad077067ba5820f", func := "treadmill/treadmilllaw15.CodeBack", spec := "codeBack", unfollowed := true, recurses := true, apart := false, narrowed := true }
def CodeBackUptoSaid : Prop := codeBackUptoRow.holds Try.pinned (OpenSpec.upto codeBackSpec)

/-- 'treadmilllaw15.CodeBounds', WHERE WHAT IT READS IS OF BULK AT MOST 1048576: true; the input reads as it did. -/
def codeBoundsUptoRow : OpenClaim := { program := "ytmajnjbjoagihaa", sum := "e8eaa1ae4af2a7d587f6b602f6d0a9378db9a829716c975a7ad077067ba5820f", func := "treadmill/treadmilllaw15.CodeBounds", spec := "codeBounds", unfollowed := true, recurses := true, apart := false, narrowed := true }
def CodeBoundsUptoSaid : Prop := codeBoundsUptoRow.holds Try.pinned (OpenSpec.upto codeBoundsSpec)

end Rows
end Go.Proofs.Ytmajnjbjoagihaa
