/-
  No cell of these rows narrows 'for every input' (looked for: loops, veiled, ifaces, maps, wideKeys, modest, calm, conditions, laid).
  DERIVED. THE GIVEN ROWS OF THIS SEAT. 3 by the template 'for every input the law returns true; each argument reads behind the call as it read before'; 0 by the template 'total and deterministic' (their statements: YtomegcicfpmefaaTotals.lean).
  GIVEN WITH THE SEED: the statements are not yours to turn. If you find one false, say at which input.
  Laid BY PROGRAM, IN A SANDBOX (cutbox-rows.mjs): the forced cells as the released guide's own fill.sh prints them over the translation 1070a5db8ca943ad… (all of the seat's roots in one cut). By AI agents, Wed Nov 11 2026. No macro, syntax, notation, axiom, sorry.
-/
import Derived.Test.YtomegcicfpmefaaChecked
import GoSem.Claim
import GoSem.ClaimJoined
import GoSem.ClaimMapViews
import Derived.JoinedTies
import Derived.KernelRfl
namespace Go.Proofs.Ytomegcicfpmefaa
/- THE CELL 'sum', in the pinned program and in every row, IS THE sha256 OF THE DUMP (.gsa) THAT YtomegcicfpmefaaProg.lean LOADS. Nothing in Lean hashes anything: it is a label: what it is worth is what the hold of that sum in a sandbox is worth. -/
noncomputable def Try.pinned : Pinned := { name := "ytomegcicfpmefaa", sum := "1070a5db8ca943ad7f5ef2059d164301cdfeebd6aa7424ce3bbe9ba85e989053", checked := Try.checked }
namespace Rows
def none {H : Type} : Left H := { results := [], args := [] }

/-- 'treadmilllaw22.CreditBounds': WHATEVER THE INPUT: true; the input reads as it did. -/
def creditBoundsSpec : ChangeSpec := { name := "creditBounds", fn := fun _ => fun
  | [d1, d2] => { results := [.lit (.bool true)], args := [d1, d2] }
  | _ => none }
def creditBoundsRow : OpenClaim := { program := "ytomegcicfpmefaa", sum := "1070a5db8ca943ad7f5ef2059d164301cdfeebd6aa7424ce3bbe9ba85e989053", func := "treadmill/treadmilllaw22.CreditBounds", spec := "creditBounds", inPlace := ["math/bits.Add64"], unfollowed := true, recurses := true, named := ["math/bits.divideError", "math/bits.overflowError"], apart := false }
def CreditBoundsSaid : Prop := creditBoundsRow.holds Try.pinned (OpenSpec.ofChange creditBoundsSpec)

/-- ITS FALSE NEIGHBOUR: 'it returns false'. Refute it at one input. -/
def creditBoundsWrong : ChangeSpec := { name := "creditBounds", fn := fun _ => fun
  | [d1, d2] => { results := [.lit (.bool false)], args := [d1, d2] }
  | _ => none }
def CreditBoundsWrongFalsely : Prop := creditBoundsRow.holds Try.pinned (OpenSpec.ofChange creditBoundsWrong)

/-- 'treadmilllaw22.CreditApart': WHATEVER THE INPUT: true; the input reads as it did. -/
def creditApartSpec : ChangeSpec := { name := "creditApart", fn := fun _ => fun
  | [d1, d2, d3] => { results := [.lit (.bool true)], args := [d1, d2, d3] }
  | _ => none }
def creditApartRow : OpenClaim := { program := "ytomegcicfpmefaa", sum := "1070a5db8ca943ad7f5ef2059d164301cdfeebd6aa7424ce3bbe9ba85e989053", func := "treadmill/treadmilllaw22.CreditApart", spec := "creditApart", inPlace := ["math/bits.Add64"], unfollowed := true, recurses := true, named := ["math/bits.divideError", "math/bits.overflowError"], apart := false }
def CreditApartSaid : Prop := creditApartRow.holds Try.pinned (OpenSpec.ofChange creditApartSpec)

/-- ITS FALSE NEIGHBOUR: 'it returns false'. Refute it at one input. -/
def creditApartWrong : ChangeSpec := { name := "creditApart", fn := fun _ => fun
  | [d1, d2, d3] => { results := [.lit (.bool false)], args := [d1, d2, d3] }
  | _ => none }
def CreditApartWrongFalsely : Prop := creditApartRow.holds Try.pinned (OpenSpec.ofChange creditApartWrong)

/-- 'treadmilllaw22.CreditPays': WHATEVER THE INPUT: true; the input reads as it did. -/
def creditPaysSpec : ChangeSpec := { name := "creditPays", fn := fun _ => fun
  | [d1, d2] => { results := [.lit (.bool true)], args := [d1, d2] }
  | _ => none }
def creditPaysRow : OpenClaim := { program := "ytomegcicfpmefaa", sum := "1070a5db8ca943ad7f5ef2059d164301cdfeebd6aa7424ce3bbe9ba85e989053", func := "treadmill/treadmilllaw22.CreditPays", spec := "creditPays", inPlace := ["math/bits.Add64"], unfollowed := true, recurses := true, named := ["math/bits.divideError", "math/bits.overflowError"], apart := false }
def CreditPaysSaid : Prop := creditPaysRow.holds Try.pinned (OpenSpec.ofChange creditPaysSpec)

/-- ITS FALSE NEIGHBOUR: 'it returns false'. Refute it at one input. -/
def creditPaysWrong : ChangeSpec := { name := "creditPays", fn := fun _ => fun
  | [d1, d2] => { results := [.lit (.bool false)], args := [d1, d2] }
  | _ => none }
def CreditPaysWrongFalsely : Prop := creditPaysRow.holds Try.pinned (OpenSpec.ofChange creditPaysWrong)

/- THE SECOND FORM. 'bulk': how many values and letters a reading holds, each counted each time it is reached (what is shared counts as often as it is met; a slice's spare places count too). A statement '..UptoSaid' is the law's where the arguments, and the package variables that the reading takes, are together of bulk at most 1048576: NARROWER than '..Said'. Prove '..Said' where nothing that the law and all that it calls make is longer than what came in: it says more and counts as full. Else prove '..UptoSaid'. A law counts once. -/
mutual
def uptoBulk {H : Type} : DataW H → Nat
  | .lit (.string bytes) => bytes.length + 1
  | .lit _ => 1
  | .nil => 1
  | .ptr d => uptoBulk d + 1
  | .slice elems spare => uptoBulkAll elems + uptoBulkAll spare + 1
  | .agg parts => uptoBulkAll parts + 1
  | .iface _ d => uptoBulk d + 1
  | .map entries => uptoBulkEntries entries + 1
  | .held _ => 1
def uptoBulkAll {H : Type} : List (DataW H) → Nat
  | [] => 0
  | d :: r => uptoBulk d + uptoBulkAll r
def uptoBulkEntries {H : Type} : List (Lit × DataW H) → Nat
  | [] => 0
  | x :: r => uptoBulkEntry x + uptoBulkEntries r
def uptoBulkEntry {H : Type} : Lit × DataW H → Nat
  | (.string bytes, d) => bytes.length + uptoBulk d + 1
  | (_, d) => uptoBulk d + 1
 end
def uptoSmall : (H : Type) → List (DataW H) → Bool := fun _ ds => decide (uptoBulkAll ds ≤ 1048576)
def OpenSpec.upto (s : _root_.Go.ChangeSpec) : _root_.Go.OpenSpec := { _root_.Go.OpenSpec.ofChange s with cond := some uptoSmall }

/-- 'treadmilllaw22.CreditBounds', WHERE WHAT IT READS IS OF BULK AT MOST 1048576: true; the input reads as it did. -/
def creditBoundsUptoRow : OpenClaim := { program := "ytomegcicfpmefaa", sum := "1070a5db8ca943ad7f5ef2059d164301cdfeebd6aa7424ce3bbe9ba85e989053", func := "treadmill/treadmilllaw22.CreditBounds", spec := "creditBounds", inPlace := ["math/bits.Add64"], unfollowed := true, recurses := true, named := ["math/bits.divideError", "math/bits.overflowError"], apart := false, narrowed := true }
def CreditBoundsUptoSaid : Prop := creditBoundsUptoRow.holds Try.pinned (OpenSpec.upto creditBoundsSpec)

/-- 'treadmilllaw22.CreditApart', WHERE WHAT IT READS IS OF BULK AT MOST 1048576: true; the input reads as it did. -/
def creditApartUptoRow : OpenClaim := { program := "ytomegcicfpmefaa", sum := "1070a5db8ca943ad7f5ef2059d164301cdfeebd6aa7424ce3bbe9ba85e989053", func := "treadmill/treadmilllaw22.CreditApart", spec := "creditApart", inPlace := ["math/bits.Add64"], unfollowed := true, recurses := true, named := ["math/bits.divideError", "math/bits.overflowError"], apart := false, narrowed := true }
def CreditApartUptoSaid : Prop := creditApartUptoRow.holds Try.pinned (OpenSpec.upto creditApartSpec)

/-- 'treadmilllaw22.CreditPays', WHERE WHAT IT READS IS OF BULK AT MOST 1048576: true; the input reads as it did. -/
def creditPaysUptoRow : OpenClaim := { program := "ytomegcicfpmefaa", sum := "1070a5db8ca943ad7f5ef2059d164301cdfeebd6aa7424ce3bbe9ba85e989053", func := "treadmill/treadmilllaw22.CreditPays", spec := "creditPays", inPlace := ["math/bits.Add64"], unfollowed := true, recurses := true, named := ["math/bits.divideError", "math/bits.overflowError"], apart := false, narrowed := true }
def CreditPaysUptoSaid : Prop := creditPaysUptoRow.holds Try.pinned (OpenSpec.upto creditPaysSpec)

end Rows
end Go.Proofs.Ytomegcicfpmefaa
