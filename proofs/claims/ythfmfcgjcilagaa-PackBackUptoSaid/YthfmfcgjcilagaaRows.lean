/-
  No cell of these rows narrows 'for every input' (looked for: loops, veiled, ifaces, maps, wideKeys, modest, calm, conditions, laid).
  DERIVED. THE GIVEN ROWS OF THIS SEAT. 7 by the template 'for every input the law returns true; each argument reads behind the call as it read before'; 0 by the template 'total and deterministic' (their statements: YthfmfcgjcilagaaTotals.lean).
  GIVEN WITH THE SEED: the statements are not yours to turn. If you find one false, say at which input.
  Laid BY PROGRAM, IN A SANDBOX (cutbox-rows.mjs): the forced cells as the released guide's own fill.sh prints them over the translation c378f0c87a84dd68… (all of the seat's roots in one cut). By AI agents, Wed Nov 11 2026. No macro, syntax, notation, axiom, sorry.
-/
import Derived.Test.YthfmfcgjcilagaaChecked
import GoSem.Claim
import GoSem.ClaimJoined
import GoSem.ClaimMapViews
import Derived.JoinedTies
import Derived.KernelRfl
namespace Go.Proofs.Ythfmfcgjcilagaa
/- THE CELL 'sum', in the pinned program and in every row, IS THE sha256 OF THE DUMP (.gsa) THAT YthfmfcgjcilagaaProg.lean LOADS. Nothing in Lean hashes anything: it is a label: what it is worth is what the hold of that sum in a sandbox is worth. -/
noncomputable def Try.pinned : Pinned := { name := "ythfmfcgjcilagaa", sum := "c378f0c87a84dd688a98a3d8e9a54502584548a403a9d6f1be33416b880c4c92", checked := Try.checked }
namespace Rows
def none {H : Type} : Left H := { results := [], args := [] }

/-- 'riddlelaw04.PackWrites': WHATEVER THE INPUT: true; the input reads as it did. -/
def packWritesSpec : ChangeSpec := { name := "packWrites", fn := fun _ => fun
  | [d] => { results := [.lit (.bool true)], args := [d] }
  | _ => none }
def packWritesRow : OpenClaim := { program := "ythfmfcgjcilagaa", sum := "c378f0c87a84dd688a98a3d8e9a54502584548a403a9d6f1be33416b880c4c92", func := "riddle/riddlelaw04.PackWrites", spec := "packWrites", apart := false }
def PackWritesSaid : Prop := packWritesRow.holds Try.pinned (OpenSpec.ofChange packWritesSpec)

/-- ITS FALSE NEIGHBOUR: 'it returns false'. Refute it at one input. -/
def packWritesWrong : ChangeSpec := { name := "packWrites", fn := fun _ => fun
  | [d] => { results := [.lit (.bool false)], args := [d] }
  | _ => none }
def PackWritesWrongFalsely : Prop := packWritesRow.holds Try.pinned (OpenSpec.ofChange packWritesWrong)

/-- 'riddlelaw04.PackTurns': WHATEVER THE INPUT: true; the input reads as it did. -/
def packTurnsSpec : ChangeSpec := { name := "packTurns", fn := fun _ => fun
  | [d1, d2, d3] => { results := [.lit (.bool true)], args := [d1, d2, d3] }
  | _ => none }
def packTurnsRow : OpenClaim := { program := "ythfmfcgjcilagaa", sum := "c378f0c87a84dd688a98a3d8e9a54502584548a403a9d6f1be33416b880c4c92", func := "riddle/riddlelaw04.PackTurns", spec := "packTurns", apart := false }
def PackTurnsSaid : Prop := packTurnsRow.holds Try.pinned (OpenSpec.ofChange packTurnsSpec)

/-- ITS FALSE NEIGHBOUR: 'it returns false'. Refute it at one input. -/
def packTurnsWrong : ChangeSpec := { name := "packTurns", fn := fun _ => fun
  | [d1, d2, d3] => { results := [.lit (.bool false)], args := [d1, d2, d3] }
  | _ => none }
def PackTurnsWrongFalsely : Prop := packTurnsRow.holds Try.pinned (OpenSpec.ofChange packTurnsWrong)

/-- 'riddlelaw04.PackReads': WHATEVER THE INPUT: true; the input reads as it did. -/
def packReadsSpec : ChangeSpec := { name := "packReads", fn := fun _ => fun
  | [d1, d2] => { results := [.lit (.bool true)], args := [d1, d2] }
  | _ => none }
def packReadsRow : OpenClaim := { program := "ythfmfcgjcilagaa", sum := "c378f0c87a84dd688a98a3d8e9a54502584548a403a9d6f1be33416b880c4c92", func := "riddle/riddlelaw04.PackReads", spec := "packReads", apart := false }
def PackReadsSaid : Prop := packReadsRow.holds Try.pinned (OpenSpec.ofChange packReadsSpec)

/-- ITS FALSE NEIGHBOUR: 'it returns false'. Refute it at one input. -/
def packReadsWrong : ChangeSpec := { name := "packReads", fn := fun _ => fun
  | [d1, d2] => { results := [.lit (.bool false)], args := [d1, d2] }
  | _ => none }
def PackReadsWrongFalsely : Prop := packReadsRow.holds Try.pinned (OpenSpec.ofChange packReadsWrong)

/-- 'riddlelaw04.PackBack': WHATEVER THE INPUT: true; the input reads as it did. -/
def packBackSpec : ChangeSpec := { name := "packBack", fn := fun _ => fun
  | [d] => { results := [.lit (.bool true)], args := [d] }
  | _ => none }
def packBackRow : OpenClaim := { program := "ythfmfcgjcilagaa", sum := "c378f0c87a84dd688a98a3d8e9a54502584548a403a9d6f1be33416b880c4c92", func := "riddle/riddlelaw04.PackBack", spec := "packBack", apart := false }
def PackBackSaid : Prop := packBackRow.holds Try.pinned (OpenSpec.ofChange packBackSpec)

/-- ITS FALSE NEIGHBOUR: 'it returns false'. Refute it at one input. -/
def packBackWrong : ChangeSpec := { name := "packBack", fn := fun _ => fun
  | [d] => { results := [.lit (.bool false)], args := [d] }
  | _ => none }
def PackBackWrongFalsely : Prop := packBackRow.holds Try.pinned (OpenSpec.ofChange packBackWrong)

/-- 'riddlelaw04.PackSeals': WHATEVER THE INPUT: true; the input reads as it did. -/
def packSealsSpec : ChangeSpec := { name := "packSeals", fn := fun _ => fun
  | [d1, d2, d3] => { results := [.lit (.bool true)], args := [d1, d2, d3] }
  | _ => none }
def packSealsRow : OpenClaim := { program := "ythfmfcgjcilagaa", sum := "c378f0c87a84dd688a98a3d8e9a54502584548a403a9d6f1be33416b880c4c92", func := "riddle/riddlelaw04.PackSeals", spec := "packSeals", apart := false }
def PackSealsSaid : Prop := packSealsRow.holds Try.pinned (OpenSpec.ofChange packSealsSpec)

/-- ITS FALSE NEIGHBOUR: 'it returns false'. Refute it at one input. -/
def packSealsWrong : ChangeSpec := { name := "packSeals", fn := fun _ => fun
  | [d1, d2, d3] => { results := [.lit (.bool false)], args := [d1, d2, d3] }
  | _ => none }
def PackSealsWrongFalsely : Prop := packSealsRow.holds Try.pinned (OpenSpec.ofChange packSealsWrong)

/-- 'riddlelaw04.PackBursts': WHATEVER THE INPUT: true; the input reads as it did. -/
def packBurstsSpec : ChangeSpec := { name := "packBursts", fn := fun _ => fun
  | [d1, d2, d3] => { results := [.lit (.bool true)], args := [d1, d2, d3] }
  | _ => none }
def packBurstsRow : OpenClaim := { program := "ythfmfcgjcilagaa", sum := "c378f0c87a84dd688a98a3d8e9a54502584548a403a9d6f1be33416b880c4c92", func := "riddle/riddlelaw04.PackBursts", spec := "packBursts", apart := false }
def PackBurstsSaid : Prop := packBurstsRow.holds Try.pinned (OpenSpec.ofChange packBurstsSpec)

/-- ITS FALSE NEIGHBOUR: 'it returns false'. Refute it at one input. -/
def packBurstsWrong : ChangeSpec := { name := "packBursts", fn := fun _ => fun
  | [d1, d2, d3] => { results := [.lit (.bool false)], args := [d1, d2, d3] }
  | _ => none }
def PackBurstsWrongFalsely : Prop := packBurstsRow.holds Try.pinned (OpenSpec.ofChange packBurstsWrong)

/-- 'riddlelaw04.PackSizes': WHATEVER THE INPUT: true; the input reads as it did. -/
def packSizesSpec : ChangeSpec := { name := "packSizes", fn := fun _ => fun
  | [d1, d2] => { results := [.lit (.bool true)], args := [d1, d2] }
  | _ => none }
def packSizesRow : OpenClaim := { program := "ythfmfcgjcilagaa", sum := "c378f0c87a84dd688a98a3d8e9a54502584548a403a9d6f1be33416b880c4c92", func := "riddle/riddlelaw04.PackSizes", spec := "packSizes", apart := false }
def PackSizesSaid : Prop := packSizesRow.holds Try.pinned (OpenSpec.ofChange packSizesSpec)

/-- ITS FALSE NEIGHBOUR: 'it returns false'. Refute it at one input. -/
def packSizesWrong : ChangeSpec := { name := "packSizes", fn := fun _ => fun
  | [d1, d2] => { results := [.lit (.bool false)], args := [d1, d2] }
  | _ => none }
def PackSizesWrongFalsely : Prop := packSizesRow.holds Try.pinned (OpenSpec.ofChange packSizesWrong)

/- THE SECOND FORM. 'bulk': how many values and letters a reading holds, each counted each time it is reached (what is shared counts as often as it is met; a slice's spare places count too). A statement '..UptoSaid' is the law's where the arguments, and the package variables that the reading takes, are together of bulk at most 1048576: NARROWER than '..Said'. Prove '..Said' where nothing that the law and all that it calls make is longer than what came in: it says more and counts as full. Else prove '..UptoSaid'. A law counts once. -/
mutual
def uptoBulk {H : Type} : DataW H → Nat
  | .lit (.string bytes) => bytes.length + 1
  | .lit _ => 1
  | .nil => 1
  | .ptr d => uptoBulk d + 1
  | .slice elems spare => uptoBulkAll elems + uptoBulkAll spare + 1
  | .agg parts => uptoBulkAll parts + 1
  | .iface _ d => uptoBulk d + 1
  | .map entries => uptoBulkEntries entries + 1
  | .held _ => 1
def uptoBulkAll {H : Type} : List (DataW H) → Nat
  | [] => 0
  | d :: r => uptoBulk d + uptoBulkAll r
def uptoBulkEntries {H : Type} : List (Lit × DataW H) → Nat
  | [] => 0
  | x :: r => uptoBulkEntry x + uptoBulkEntries r
def uptoBulkEntry {H : Type} : Lit × DataW H → Nat
  | (.string bytes, d) => bytes.length + uptoBulk d + 1
  | (_, d) => uptoBulk d + 1
 end
def uptoSmall : (H : Type) → List (DataW H) → Bool := fun _ ds => decide (uptoBulkAll ds ≤ 1048576)
def OpenSpec.upto (s : _root_.Go.ChangeSpec) : _root_.Go.OpenSpec := { _root_.Go.OpenSpec.ofChange s with cond := some uptoSmall }

/-- 'riddlelaw04.PackWrites', WHERE WHAT IT READS IS OF BULK AT MOST 1048576: true; the input reads as it did. -/
def packWritesUptoRow : OpenClaim := { program := "ythfmfcgjcilagaa", sum := "c378f0c87a84dd688a98a3d8e9a54502584548a403a9d6f1be33416b880c4c92", func := "riddle/riddlelaw04.PackWrites", spec := "packWrites", apart := false, narrowed := true }
def PackWritesUptoSaid : Prop := packWritesUptoRow.holds Try.pinned (OpenSpec.upto packWritesSpec)

/-- 'riddlelaw04.PackTurns', WHERE WHAT IT READS IS OF BULK AT MOST 1048576: true; the input reads as it did. -/
def packTurnsUptoRow : OpenClaim := { program := "ythfmfcgjcilagaa", sum := "c378f0c87a84dd688a98a3d8e9a54502584548a403a9d6f1be33416b880c4c92", func := "riddle/riddlelaw04.PackTurns", spec := "packTurns", apart := false, narrowed := true }
def PackTurnsUptoSaid : Prop := packTurnsUptoRow.holds Try.pinned (OpenSpec.upto packTurnsSpec)

/-- 'riddlelaw04.PackReads', WHERE WHAT IT READS IS OF BULK AT MOST 1048576: true; the input reads as it did. -/
def packReadsUptoRow : OpenClaim := { program := "ythfmfcgjcilagaa", sum := "c378f0c87a84dd688a98a3d8e9a54502584548a403a9d6f1be33416b880c4c92", func := "riddle/riddlelaw04.PackReads", spec := "packReads", apart := false, narrowed := true }
def PackReadsUptoSaid : Prop := packReadsUptoRow.holds Try.pinned (OpenSpec.upto packReadsSpec)

/-- 'riddlelaw04.PackBack', WHERE WHAT IT READS IS OF BULK AT MOST 1048576: true; the input reads as it did. -/
def packBackUptoRow : OpenClaim := { program := "ythfmfcgjcilagaa", sum := "c378f0c87a84dd688a98a3d8e9a54502584548a403a9d6f1be33416b880c4c92", func := "riddle/riddlelaw04.PackBack", spec := "packBack", apart := false, narrowed := true }
def PackBackUptoSaid : Prop := packBackUptoRow.holds Try.pinned (OpenSpec.upto packBackSpec)

/-- 'riddlelaw04.PackSeals', WHERE WHAT IT READS IS OF BULK AT MOST 1048576: true; the input reads as it did. -/
def packSealsUptoRow : OpenClaim := { program := "ythfmfcgjcilagaa", sum := "c378f0c87a84dd688a98a3d8e9a54502584548a403a9d6f1be33416b880c4c92", func := "riddle/riddlelaw04.PackSeals", spec := "packSeals", apart := false, narrowed := true }
def PackSealsUptoSaid : Prop := packSealsUptoRow.holds Try.pinned (OpenSpec.upto packSealsSpec)

/-- 'riddlelaw04.PackBursts', WHERE WHAT IT READS IS OF BULK AT MOST 1048576: true; the input reads as it did. -/
def packBurstsUptoRow : OpenClaim := { program := "ythfmfcgjcilagaa", sum := "c378f0c87a84dd688a98a3d8e9a54502584548a403a9d6f1be33416b880c4c92", func := "riddle/riddlelaw04.PackBursts", spec := "packBursts", apart := false, narrowed := true }
def PackBurstsUptoSaid : Prop := packBurstsUptoRow.holds Try.pinned (OpenSpec.upto packBurstsSpec)

/-- 'riddlelaw04.PackSizes', WHERE WHAT IT READS IS OF BULK AT MOST 1048576: true; the input reads as it did. -/
def packSizesUptoRow : OpenClaim := { program := "ythfmfcgjcilagaa", sum := "c378f0c87a84dd688a98a3d8e9a54502584548a403a9d6f1be33416b880c4c92", func := "riddle/riddlelaw04.PackSizes", spec := "packSizes", apart := false, narrowed := true }
def PackSizesUptoSaid : Prop := packSizesUptoRow.holds Try.pinned (OpenSpec.upto packSizesSpec)

end Rows
end Go.Proofs.Ythfmfcgjcilagaa
