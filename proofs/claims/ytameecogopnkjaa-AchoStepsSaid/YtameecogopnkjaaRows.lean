/-
  No cell of these rows narrows 'for every input' (looked for: loops, veiled, ifaces, maps, wideKeys, modest, calm, conditions, laid).
  DERIVED. THE GIVEN ROWS OF THIS SEAT. 4 by the template 'for every input the law returns true; each argument reads behind the call as it read before'; 0 by the template 'total and deterministic' (their statements: YtameecogopnkjaaTotals.lean).
  GIVEN WITH THE SEED: the statements are not yours to turn. If you find one false, say at which input.
  Laid BY PROGRAM, IN A SANDBOX (cutbox-rows.mjs): the forced cells as the released guide's own fill.sh prints them over the translation 8caf8298bf604bea… (all of the seat's roots in one cut). By AI agents, Wed Nov 11 2026. No macro, syntax, notation, axiom, sorry.
-/
import Derived.Test.YtameecogopnkjaaChecked
import GoSem.Claim
import GoSem.ClaimJoined
import GoSem.ClaimMapViews
import Derived.JoinedTies
import Derived.KernelRfl
namespace Go.Proofs.Ytameecogopnkjaa
/- THE CELL 'sum', in the pinned program and in every row, IS THE sha256 OF THE DUMP (.gsa) THAT YtameecogopnkjaaProg.lean LOADS. Nothing in Lean hashes anything: it is a label: what it is worth is what the hold of that sum in a sandbox is worth. -/
noncomputable def Try.pinned : Pinned := { name := "ytameecogopnkjaa", sum := "8caf8298bf604bea12155469bc1f46cd45cf4e5715b56f47da4e577e6597edb7", checked := Try.checked }
namespace Rows
def none {H : Type} : Left H := { results := [], args := [] }

/-- 'riddlelaw18.AchoFinds': WHATEVER THE INPUT: true; the input reads as it did. -/
def achoFindsSpec : ChangeSpec := { name := "achoFinds", fn := fun _ => fun
  | [d1, d2] => { results := [.lit (.bool true)], args := [d1, d2] }
  | _ => none }
def achoFindsRow : OpenClaim := { program := "ytameecogopnkjaa", sum := "8caf8298bf604bea12155469bc1f46cd45cf4e5715b56f47da4e577e6597edb7", func := "riddle/riddlelaw18.AchoFinds", spec := "achoFinds", recurses := true, apart := false }
def AchoFindsSaid : Prop := achoFindsRow.holds Try.pinned (OpenSpec.ofChange achoFindsSpec)

/-- ITS FALSE NEIGHBOUR: 'it returns false'. Refute it at one input. -/
def achoFindsWrong : ChangeSpec := { name := "achoFinds", fn := fun _ => fun
  | [d1, d2] => { results := [.lit (.bool false)], args := [d1, d2] }
  | _ => none }
def AchoFindsWrongFalsely : Prop := achoFindsRow.holds Try.pinned (OpenSpec.ofChange achoFindsWrong)

/-- 'riddlelaw18.AchoTwice': WHATEVER THE INPUT: true; the input reads as it did. -/
def achoTwiceSpec : ChangeSpec := { name := "achoTwice", fn := fun _ => fun
  | [d1, d2, d3] => { results := [.lit (.bool true)], args := [d1, d2, d3] }
  | _ => none }
def achoTwiceRow : OpenClaim := { program := "ytameecogopnkjaa", sum := "8caf8298bf604bea12155469bc1f46cd45cf4e5715b56f47da4e577e6597edb7", func := "riddle/riddlelaw18.AchoTwice", spec := "achoTwice", recurses := true, apart := false }
def AchoTwiceSaid : Prop := achoTwiceRow.holds Try.pinned (OpenSpec.ofChange achoTwiceSpec)

/-- ITS FALSE NEIGHBOUR: 'it returns false'. Refute it at one input. -/
def achoTwiceWrong : ChangeSpec := { name := "achoTwice", fn := fun _ => fun
  | [d1, d2, d3] => { results := [.lit (.bool false)], args := [d1, d2, d3] }
  | _ => none }
def AchoTwiceWrongFalsely : Prop := achoTwiceRow.holds Try.pinned (OpenSpec.ofChange achoTwiceWrong)

/-- 'riddlelaw18.AchoSteps': WHATEVER THE INPUT: true; the input reads as it did. -/
def achoStepsSpec : ChangeSpec := { name := "achoSteps", fn := fun _ => fun
  | [d1, d2] => { results := [.lit (.bool true)], args := [d1, d2] }
  | _ => none }
def achoStepsRow : OpenClaim := { program := "ytameecogopnkjaa", sum := "8caf8298bf604bea12155469bc1f46cd45cf4e5715b56f47da4e577e6597edb7", func := "riddle/riddlelaw18.AchoSteps", spec := "achoSteps", recurses := true, apart := false }
def AchoStepsSaid : Prop := achoStepsRow.holds Try.pinned (OpenSpec.ofChange achoStepsSpec)

/-- ITS FALSE NEIGHBOUR: 'it returns false'. Refute it at one input. -/
def achoStepsWrong : ChangeSpec := { name := "achoSteps", fn := fun _ => fun
  | [d1, d2] => { results := [.lit (.bool false)], args := [d1, d2] }
  | _ => none }
def AchoStepsWrongFalsely : Prop := achoStepsRow.holds Try.pinned (OpenSpec.ofChange achoStepsWrong)

/-- 'riddlelaw18.AchoWalks': WHATEVER THE INPUT: true; the input reads as it did. -/
def achoWalksSpec : ChangeSpec := { name := "achoWalks", fn := fun _ => fun
  | [d1, d2] => { results := [.lit (.bool true)], args := [d1, d2] }
  | _ => none }
def achoWalksRow : OpenClaim := { program := "ytameecogopnkjaa", sum := "8caf8298bf604bea12155469bc1f46cd45cf4e5715b56f47da4e577e6597edb7", func := "riddle/riddlelaw18.AchoWalks", spec := "achoWalks", recurses := true, apart := false }
def AchoWalksSaid : Prop := achoWalksRow.holds Try.pinned (OpenSpec.ofChange achoWalksSpec)

/-- ITS FALSE NEIGHBOUR: 'it returns false'. Refute it at one input. -/
def achoWalksWrong : ChangeSpec := { name := "achoWalks", fn := fun _ => fun
  | [d1, d2] => { results := [.lit (.bool false)], args := [d1, d2] }
  | _ => none }
def AchoWalksWrongFalsely : Prop := achoWalksRow.holds Try.pinned (OpenSpec.ofChange achoWalksWrong)

/- THE SECOND FORM. 'bulk': how many values and letters a reading holds, each counted each time it is reached (what is shared counts as often as it is met; a slice's spare places count too). A statement '..UptoSaid' is the law's where the arguments, and the package variables that the reading takes, are together of bulk at most 1048576: NARROWER than '..Said'. Prove '..Said' where nothing that the law and all that it calls make is longer than what came in: it says more and counts as full. Else prove '..UptoSaid'. A law counts once. -/
mutual
def uptoBulk {H : Type} : DataW H → Nat
  | .lit (.string bytes) => bytes.length + 1
  | .lit _ => 1
  | .nil => 1
  | .ptr d => uptoBulk d + 1
  | .slice elems spare => uptoBulkAll elems + uptoBulkAll spare + 1
  | .agg parts => uptoBulkAll parts + 1
  | .iface _ d => uptoBulk d + 1
  | .map entries => uptoBulkEntries entries + 1
  | .held _ => 1
def uptoBulkAll {H : Type} : List (DataW H) → Nat
  | [] => 0
  | d :: r => uptoBulk d + uptoBulkAll r
def uptoBulkEntries {H : Type} : List (Lit × DataW H) → Nat
  | [] => 0
  | x :: r => uptoBulkEntry x + uptoBulkEntries r
def uptoBulkEntry {H : Type} : Lit × DataW H → Nat
  | (.string bytes, d) => bytes.length + uptoBulk d + 1
  | (_, d) => uptoBulk d + 1
 end
def uptoSmall : (H : Type) → List (DataW H) → Bool := fun _ ds => decide (uptoBulkAll ds ≤ 1048576)
def OpenSpec.upto (s : _root_.Go.ChangeSpec) : _root_.Go.OpenSpec := { _root_.Go.OpenSpec.ofChange s with cond := some uptoSmall }

/-- 'riddlelaw18.AchoFinds', WHERE WHAT IT READS IS OF BULK AT MOST 1048576: true; the input reads as it did. -/
def achoFindsUptoRow : OpenClaim := { program := "ytameecogopnkjaa", sum := "8caf8298bf604bea12155469bc1f46cd45cf4e5715b56f47da4e577e6597edb7", func := "riddle/riddlelaw18.AchoFinds", spec := "achoFinds", recurses := true, apart := false, narrowed := true }
def AchoFindsUptoSaid : Prop := achoFindsUptoRow.holds Try.pinned (OpenSpec.upto achoFindsSpec)

/-- 'riddlelaw18.AchoTwice', WHERE WHAT IT READS IS OF BULK AT MOST 1048576: true; the input reads as it did. -/
def achoTwiceUptoRow : OpenClaim := { program := "ytameecogopnkjaa", sum := "8caf8298bf604bea12155469bc1f46cd45cf4e5715b56f47da4e577e6597edb7", func := "riddle/riddlelaw18.AchoTwice", spec := "achoTwice", recurses := true, apart := false, narrowed := true }
def AchoTwiceUptoSaid : Prop := achoTwiceUptoRow.holds Try.pinned (OpenSpec.upto achoTwiceSpec)

/-- 'riddlelaw18.AchoSteps', WHERE WHAT IT READS IS OF BULK AT MOST 1048576: true; the input reads as it did. -/
def achoStepsUptoRow : OpenClaim := { program := "ytameecogopnkjaa", sum := "8caf8298bf604bea12155469bc1f46cd45cf4e5715b56f47da4e577e6597edb7", func := "riddle/riddlelaw18.AchoSteps", spec := "achoSteps", recurses := true, apart := false, narrowed := true }
def AchoStepsUptoSaid : Prop := achoStepsUptoRow.holds Try.pinned (OpenSpec.upto achoStepsSpec)

/-- 'riddlelaw18.AchoWalks', WHERE WHAT IT READS IS OF BULK AT MOST 1048576: true; the input reads as it did. -/
def achoWalksUptoRow : OpenClaim := { program := "ytameecogopnkjaa", sum := "8caf8298bf604bea12155469bc1f46cd45cf4e5715b56f47da4e577e6597edb7", func := "riddle/riddlelaw18.AchoWalks", spec := "achoWalks", recurses := true, apart := false, narrowed := true }
def AchoWalksUptoSaid : Prop := achoWalksUptoRow.holds Try.pinned (OpenSpec.upto achoWalksSpec)

end Rows
end Go.Proofs.Ytameecogopnkjaa
