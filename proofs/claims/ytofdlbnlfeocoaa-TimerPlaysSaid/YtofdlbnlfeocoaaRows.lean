/-
  No cell of these rows narrows 'for every input' (looked for: loops, veiled, ifaces, maps, wideKeys, modest, calm, conditions, laid).
  DERIVED. THE GIVEN ROWS OF THIS SEAT. 5 by the template 'for every input the law returns true; each argument reads behind the call as it read before'; 0 by the template 'total and deterministic' (their statements: YtofdlbnlfeocoaaTotals.lean).
  GIVEN WITH THE SEED: the statements are not yours to turn. If you find one false, say at which input.
  Laid BY PROGRAM, IN A SANDBOX (cutbox-rows.mjs): the forced cells as the released guide's own fill.sh prints them over the translation 78737cc02484851b… (all of the seat's roots in one cut). By AI agents, Wed Nov 11 2026. No macro, syntax, notation, axiom, sorry.
-/
import Derived.Test.YtofdlbnlfeocoaaChecked
import GoSem.Claim
import GoSem.ClaimJoined
import GoSem.ClaimMapViews
import Derived.JoinedTies
import Derived.KernelRfl
namespace Go.Proofs.Ytofdlbnlfeocoaa
/- THE CELL 'sum', in the pinned program and in every row, IS THE sha256 OF THE DUMP (.gsa) THAT YtofdlbnlfeocoaaProg.lean LOADS. Nothing in Lean hashes anything: it is a label: what it is worth is what the hold of that sum in a sandbox is worth. -/
noncomputable def Try.pinned : Pinned := { name := "ytofdlbnlfeocoaa", sum := "78737cc02484851b4a718043394a7328d3f81584d47c0d0dae563bfc3f157542", checked := Try.checked }
namespace Rows
def none {H : Type} : Left H := { results := [], args := [] }

/-- 'treadmilllaw13.TimerTimes': WHATEVER THE INPUT: true; the input reads as it did. -/
def timerTimesSpec : ChangeSpec := { name := "timerTimes", fn := fun _ => fun
  | [d1, d2] => { results := [.lit (.bool true)], args := [d1, d2] }
  | _ => none }
def timerTimesRow : OpenClaim := { program := "ytofdlbnlfeocoaa", sum := "78737cc02484851b4a718043394a7328d3f81584d47c0d0dae563bfc3f157542", func := "treadmill/treadmilllaw13.TimerTimes", spec := "timerTimes", unfollowed := true, recurses := true, apart := false }
def TimerTimesSaid : Prop := timerTimesRow.holds Try.pinned (OpenSpec.ofChange timerTimesSpec)

/-- ITS FALSE NEIGHBOUR: 'it returns false'. Refute it at one input. -/
def timerTimesWrong : ChangeSpec := { name := "timerTimes", fn := fun _ => fun
  | [d1, d2] => { results := [.lit (.bool false)], args := [d1, d2] }
  | _ => none }
def TimerTimesWrongFalsely : Prop := timerTimesRow.holds Try.pinned (OpenSpec.ofChange timerTimesWrong)

/-- 'treadmilllaw13.TimerTwice': WHATEVER THE INPUT: true; the input reads as it did. -/
def timerTwiceSpec : ChangeSpec := { name := "timerTwice", fn := fun _ => fun
  | [d1, d2, d3] => { results := [.lit (.bool true)], args := [d1, d2, d3] }
  | _ => none }
def timerTwiceRow : OpenClaim := { program := "ytofdlbnlfeocoaa", sum := "78737cc02484851b4a718043394a7328d3f81584d47c0d0dae563bfc3f157542", func := "treadmill/treadmilllaw13.TimerTwice", spec := "timerTwice", unfollowed := true, recurses := true, apart := false }
def TimerTwiceSaid : Prop := timerTwiceRow.holds Try.pinned (OpenSpec.ofChange timerTwiceSpec)

/-- ITS FALSE NEIGHBOUR: 'it returns false'. Refute it at one input. -/
def timerTwiceWrong : ChangeSpec := { name := "timerTwice", fn := fun _ => fun
  | [d1, d2, d3] => { results := [.lit (.bool false)], args := [d1, d2, d3] }
  | _ => none }
def TimerTwiceWrongFalsely : Prop := timerTwiceRow.holds Try.pinned (OpenSpec.ofChange timerTwiceWrong)

/-- 'treadmilllaw13.TimerPlays': WHATEVER THE INPUT: true; the input reads as it did. -/
def timerPlaysSpec : ChangeSpec := { name := "timerPlays", fn := fun _ => fun
  | [d] => { results := [.lit (.bool true)], args := [d] }
  | _ => none }
def timerPlaysRow : OpenClaim := { program := "ytofdlbnlfeocoaa", sum := "78737cc02484851b4a718043394a7328d3f81584d47c0d0dae563bfc3f157542", func := "treadmill/treadmilllaw13.TimerPlays", spec := "timerPlays", unfollowed := true, recurses := true, apart := false }
def TimerPlaysSaid : Prop := timerPlaysRow.holds Try.pinned (OpenSpec.ofChange timerPlaysSpec)

/-- ITS FALSE NEIGHBOUR: 'it returns false'. Refute it at one input. -/
def timerPlaysWrong : ChangeSpec := { name := "timerPlays", fn := fun _ => fun
  | [d] => { results := [.lit (.bool false)], args := [d] }
  | _ => none }
def TimerPlaysWrongFalsely : Prop := timerPlaysRow.holds Try.pinned (OpenSpec.ofChange timerPlaysWrong)

/-- 'treadmilllaw13.TimerNobody': WHATEVER THE INPUT: true; the input reads as it did. -/
def timerNobodySpec : ChangeSpec := { name := "timerNobody", fn := fun _ => fun
  | [d1, d2] => { results := [.lit (.bool true)], args := [d1, d2] }
  | _ => none }
def timerNobodyRow : OpenClaim := { program := "ytofdlbnlfeocoaa", sum := "78737cc02484851b4a718043394a7328d3f81584d47c0d0dae563bfc3f157542", func := "treadmill/treadmilllaw13.TimerNobody", spec := "timerNobody", unfollowed := true, recurses := true, apart := false }
def TimerNobodySaid : Prop := timerNobodyRow.holds Try.pinned (OpenSpec.ofChange timerNobodySpec)

/-- ITS FALSE NEIGHBOUR: 'it returns false'. Refute it at one input. -/
def timerNobodyWrong : ChangeSpec := { name := "timerNobody", fn := fun _ => fun
  | [d1, d2] => { results := [.lit (.bool false)], args := [d1, d2] }
  | _ => none }
def TimerNobodyWrongFalsely : Prop := timerNobodyRow.holds Try.pinned (OpenSpec.ofChange timerNobodyWrong)

/-- 'treadmilllaw13.TimerOrder': WHATEVER THE INPUT: true; the input reads as it did. -/
def timerOrderSpec : ChangeSpec := { name := "timerOrder", fn := fun _ => fun
  | [d] => { results := [.lit (.bool true)], args := [d] }
  | _ => none }
def timerOrderRow : OpenClaim := { program := "ytofdlbnlfeocoaa", sum := "78737cc02484851b4a718043394a7328d3f81584d47c0d0dae563bfc3f157542", func := "treadmill/treadmilllaw13.TimerOrder", spec := "timerOrder", unfollowed := true, recurses := true, apart := false }
def TimerOrderSaid : Prop := timerOrderRow.holds Try.pinned (OpenSpec.ofChange timerOrderSpec)

/-- ITS FALSE NEIGHBOUR: 'it returns false'. Refute it at one input. -/
def timerOrderWrong : ChangeSpec := { name := "timerOrder", fn := fun _ => fun
  | [d] => { results := [.lit (.bool false)], args := [d] }
  | _ => none }
def TimerOrderWrongFalsely : Prop := timerOrderRow.holds Try.pinned (OpenSpec.ofChange timerOrderWrong)

/- THE SECOND FORM. 'bulk': how many values and letters a reading holds, each counted each time it is reached (what is shared counts as often as it is met; a slice's spare places count too). A statement '..UptoSaid' is the law's where the arguments, and the package variables that the reading takes, are together of bulk at most 1048576: NARROWER than '..Said'. Prove '..Said' where nothing that the law and all that it calls make is longer than what came in: it says more and counts as full. Else prove '..UptoSaid'. A law counts once. -/
mutual
def uptoBulk {H : Type} : DataW H → Nat
  | .lit (.string bytes) => bytes.length + 1
  | .lit _ => 1
  | .nil => 1
  | .ptr d => uptoBulk d + 1
  | .slice elems spare => uptoBulkAll elems + uptoBulkAll spare + 1
  | .agg parts => uptoBulkAll parts + 1
  | .iface _ d => uptoBulk d + 1
  | .map entries => uptoBulkEntries entries + 1
  | .held _ => 1
def uptoBulkAll {H : Type} : List (DataW H) → Nat
  | [] => 0
  | d :: r => uptoBulk d + uptoBulkAll r
def uptoBulkEntries {H : Type} : List (Lit × DataW H) → Nat
  | [] => 0
  | x :: r => uptoBulkEntry x + uptoBulkEntries r
def uptoBulkEntry {H : Type} : Lit × DataW H → Nat
  | (.string bytes, d) => bytes.length + uptoBulk d + 1
  | (_, d) => uptoBulk d + 1
 end
def uptoSmall : (H : Type) → List (DataW H) → Bool := fun _ ds => decide (uptoBulkAll ds ≤ 1048576)
def OpenSpec.upto (s : _root_.Go.ChangeSpec) : _root_.Go.OpenSpec := { _root_.Go.OpenSpec.ofChange s with cond := some uptoSmall }

/-- 'treadmilllaw13.TimerTimes', WHERE WHAT IT READS IS OF BULK AT MOST 1048576: true; the input reads as it did. -/
def timerTimesUptoRow : OpenClaim := { program := "ytofdlbnlfeocoaa", sum := "78737cc02484851b4a718043394a7328d3f81584d47c0d0dae563bfc3f157542", func := "treadmill/treadmilllaw13.TimerTimes", spec := "timerTimes", unfollowed := true, recurses := true, apart := false, narrowed := true }
def TimerTimesUptoSaid : Prop := timerTimesUptoRow.holds Try.pinned (OpenSpec.upto timerTimesSpec)

/-- 'treadmilllaw13.TimerTwice', WHERE WHAT IT READS IS OF BULK AT MOST 1048576: true; the input reads as it did. -/
def timerTwiceUptoRow : OpenClaim := { program := "ytofdlbnlfeocoaa", sum := "78737cc02484851b4a718043394a7328d3f81584d47c0d0dae563bfc3f157542", func := "treadmill/treadmilllaw13.TimerTwice", spec := "timerTwice", unfollowed := true, recurses := true, apart := false, narrowed := true }
def TimerTwiceUptoSaid : Prop := timerTwiceUptoRow.holds Try.pinned (OpenSpec.upto timerTwiceSpec)

/-- 'treadmilllaw13.TimerPlays', WHERE WHAT IT READS IS OF BULK AT MOST 1048576: true; the input reads as it did. -/
def timerPlaysUptoRow : OpenClaim := { program := "ytofdlbnlfeocoaa", sum := "78737cc02484851b4a718043394a7328d3f81584d47c0d0dae563bfc3f157542", func := "treadmill/treadmilllaw13.TimerPlays", spec := "timerPlays", unfollowed := true, recurses := true, apart := false, narrowed := true }
def TimerPlaysUptoSaid : Prop := timerPlaysUptoRow.holds Try.pinned (OpenSpec.upto timerPlaysSpec)

/-- 'treadmilllaw13.TimerNobody', WHERE WHAT IT READS IS OF BULK AT MOST 1048576: true; the input reads as it did. -/
def timerNobodyUptoRow : OpenClaim := { program := "ytofdlbnlfeocoaa", sum := "78737cc02484851b4a718043394a7328d3f81584d47c0d0dae563bfc3f157542", func := "treadmill/treadmilllaw13.TimerNobody", spec := "timerNobody", unfollowed := true, recurses := true, apart := false, narrowed := true }
def TimerNobodyUptoSaid : Prop := timerNobodyUptoRow.holds Try.pinned (OpenSpec.upto timerNobodySpec)

/-- 'treadmilllaw13.TimerOrder', WHERE WHAT IT READS IS OF BULK AT MOST 1048576: true; the input reads as it did. -/
def timerOrderUptoRow : OpenClaim := { program := "ytofdlbnlfeocoaa", sum := "78737cc02484851b4a718043394a7328d3f81584d47c0d0dae563bfc3f157542", func := "treadmill/treadmilllaw13.TimerOrder", spec := "timerOrder", unfollowed := true, recurses := true, apart := false, narrowed := true }
def TimerOrderUptoSaid : Prop := timerOrderUptoRow.holds Try.pinned (OpenSpec.upto timerOrderSpec)

end Rows
end Go.Proofs.Ytofdlbnlfeocoaa
