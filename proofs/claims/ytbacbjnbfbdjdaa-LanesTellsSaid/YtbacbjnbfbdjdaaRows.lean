/-
  No cell of these rows narrows 'for every input' (looked for: loops, veiled, ifaces, maps, wideKeys, modest, calm, conditions, laid).
  DERIVED. THE GIVEN ROWS OF THIS SEAT. 6 by the template 'for every input the law returns true; each argument reads behind the call as it read before'; 0 by the template 'total and deterministic' (their statements: YtbacbjnbfbdjdaaTotals.lean).
  GIVEN WITH THE SEED: the statements are not yours to turn. If you find one false, say at which input.
  Laid BY PROGRAM, IN A SANDBOX (cutbox-rows.mjs): the forced cells as the released guide's own fill.sh prints them over the translation df631da8e262b0f9… (all of the seat's roots in one cut). By AI agents, Wed Nov 11 2026. No macro, syntax, notation, axiom, sorry.
-/
import Derived.Test.YtbacbjnbfbdjdaaChecked
import GoSem.Claim
import GoSem.ClaimJoined
import GoSem.ClaimMapViews
import Derived.JoinedTies
import Derived.KernelRfl
namespace Go.Proofs.Ytbacbjnbfbdjdaa
/- THE CELL 'sum', in the pinned program and in every row, IS THE sha256 OF THE DUMP (.gsa) THAT YtbacbjnbfbdjdaaProg.lean LOADS. Nothing in Lean hashes anything: it is a label: what it is worth is what the hold of that sum in a sandbox is worth. -/
noncomputable def Try.pinned : Pinned := { name := "ytbacbjnbfbdjdaa", sum := "df631da8e262b0f9eb9ce208eab0ae0fa6b5e11b0db435f47fe6a613754a8508", checked := Try.checked }
namespace Rows
def none {H : Type} : Left H := { results := [], args := [] }

/-- 'riddlelaw03.LanesJoins': WHATEVER THE INPUT: true; the input reads as it did. -/
def lanesJoinsSpec : ChangeSpec := { name := "lanesJoins", fn := fun _ => fun
  | [d1, d2] => { results := [.lit (.bool true)], args := [d1, d2] }
  | _ => none }
def lanesJoinsRow : OpenClaim := { program := "ytbacbjnbfbdjdaa", sum := "df631da8e262b0f9eb9ce208eab0ae0fa6b5e11b0db435f47fe6a613754a8508", func := "riddle/riddlelaw03.LanesJoins", spec := "lanesJoins", apart := false }
def LanesJoinsSaid : Prop := lanesJoinsRow.holds Try.pinned (OpenSpec.ofChange lanesJoinsSpec)

/-- ITS FALSE NEIGHBOUR: 'it returns false'. Refute it at one input. -/
def lanesJoinsWrong : ChangeSpec := { name := "lanesJoins", fn := fun _ => fun
  | [d1, d2] => { results := [.lit (.bool false)], args := [d1, d2] }
  | _ => none }
def LanesJoinsWrongFalsely : Prop := lanesJoinsRow.holds Try.pinned (OpenSpec.ofChange lanesJoinsWrong)

/-- 'riddlelaw03.LanesRules': WHATEVER THE INPUT: true; the input reads as it did. -/
def lanesRulesSpec : ChangeSpec := { name := "lanesRules", fn := fun _ => fun
  | [d1, d2, d3] => { results := [.lit (.bool true)], args := [d1, d2, d3] }
  | _ => none }
def lanesRulesRow : OpenClaim := { program := "ytbacbjnbfbdjdaa", sum := "df631da8e262b0f9eb9ce208eab0ae0fa6b5e11b0db435f47fe6a613754a8508", func := "riddle/riddlelaw03.LanesRules", spec := "lanesRules", apart := false }
def LanesRulesSaid : Prop := lanesRulesRow.holds Try.pinned (OpenSpec.ofChange lanesRulesSpec)

/-- ITS FALSE NEIGHBOUR: 'it returns false'. Refute it at one input. -/
def lanesRulesWrong : ChangeSpec := { name := "lanesRules", fn := fun _ => fun
  | [d1, d2, d3] => { results := [.lit (.bool false)], args := [d1, d2, d3] }
  | _ => none }
def LanesRulesWrongFalsely : Prop := lanesRulesRow.holds Try.pinned (OpenSpec.ofChange lanesRulesWrong)

/-- 'riddlelaw03.LanesLoads': WHATEVER THE INPUT: true; the input reads as it did. -/
def lanesLoadsSpec : ChangeSpec := { name := "lanesLoads", fn := fun _ => fun
  | [d1, d2] => { results := [.lit (.bool true)], args := [d1, d2] }
  | _ => none }
def lanesLoadsRow : OpenClaim := { program := "ytbacbjnbfbdjdaa", sum := "df631da8e262b0f9eb9ce208eab0ae0fa6b5e11b0db435f47fe6a613754a8508", func := "riddle/riddlelaw03.LanesLoads", spec := "lanesLoads", apart := false }
def LanesLoadsSaid : Prop := lanesLoadsRow.holds Try.pinned (OpenSpec.ofChange lanesLoadsSpec)

/-- ITS FALSE NEIGHBOUR: 'it returns false'. Refute it at one input. -/
def lanesLoadsWrong : ChangeSpec := { name := "lanesLoads", fn := fun _ => fun
  | [d1, d2] => { results := [.lit (.bool false)], args := [d1, d2] }
  | _ => none }
def LanesLoadsWrongFalsely : Prop := lanesLoadsRow.holds Try.pinned (OpenSpec.ofChange lanesLoadsWrong)

/-- 'riddlelaw03.LanesMask': WHATEVER THE INPUT: true; the input reads as it did. -/
def lanesMaskSpec : ChangeSpec := { name := "lanesMask", fn := fun _ => fun
  | [d1, d2] => { results := [.lit (.bool true)], args := [d1, d2] }
  | _ => none }
def lanesMaskRow : OpenClaim := { program := "ytbacbjnbfbdjdaa", sum := "df631da8e262b0f9eb9ce208eab0ae0fa6b5e11b0db435f47fe6a613754a8508", func := "riddle/riddlelaw03.LanesMask", spec := "lanesMask", apart := false }
def LanesMaskSaid : Prop := lanesMaskRow.holds Try.pinned (OpenSpec.ofChange lanesMaskSpec)

/-- ITS FALSE NEIGHBOUR: 'it returns false'. Refute it at one input. -/
def lanesMaskWrong : ChangeSpec := { name := "lanesMask", fn := fun _ => fun
  | [d1, d2] => { results := [.lit (.bool false)], args := [d1, d2] }
  | _ => none }
def LanesMaskWrongFalsely : Prop := lanesMaskRow.holds Try.pinned (OpenSpec.ofChange lanesMaskWrong)

/-- 'riddlelaw03.LanesMoves': WHATEVER THE INPUT: true; the input reads as it did. -/
def lanesMovesSpec : ChangeSpec := { name := "lanesMoves", fn := fun _ => fun
  | [d1, d2, d3] => { results := [.lit (.bool true)], args := [d1, d2, d3] }
  | _ => none }
def lanesMovesRow : OpenClaim := { program := "ytbacbjnbfbdjdaa", sum := "df631da8e262b0f9eb9ce208eab0ae0fa6b5e11b0db435f47fe6a613754a8508", func := "riddle/riddlelaw03.LanesMoves", spec := "lanesMoves", apart := false }
def LanesMovesSaid : Prop := lanesMovesRow.holds Try.pinned (OpenSpec.ofChange lanesMovesSpec)

/-- ITS FALSE NEIGHBOUR: 'it returns false'. Refute it at one input. -/
def lanesMovesWrong : ChangeSpec := { name := "lanesMoves", fn := fun _ => fun
  | [d1, d2, d3] => { results := [.lit (.bool false)], args := [d1, d2, d3] }
  | _ => none }
def LanesMovesWrongFalsely : Prop := lanesMovesRow.holds Try.pinned (OpenSpec.ofChange lanesMovesWrong)

/-- 'riddlelaw03.LanesTells': WHATEVER THE INPUT: true; the input reads as it did. -/
def lanesTellsSpec : ChangeSpec := { name := "lanesTells", fn := fun _ => fun
  | [d1, d2, d3] => { results := [.lit (.bool true)], args := [d1, d2, d3] }
  | _ => none }
def lanesTellsRow : OpenClaim := { program := "ytbacbjnbfbdjdaa", sum := "df631da8e262b0f9eb9ce208eab0ae0fa6b5e11b0db435f47fe6a613754a8508", func := "riddle/riddlelaw03.LanesTells", spec := "lanesTells", apart := false }
def LanesTellsSaid : Prop := lanesTellsRow.holds Try.pinned (OpenSpec.ofChange lanesTellsSpec)

/-- ITS FALSE NEIGHBOUR: 'it returns false'. Refute it at one input. -/
def lanesTellsWrong : ChangeSpec := { name := "lanesTells", fn := fun _ => fun
  | [d1, d2, d3] => { results := [.lit (.bool false)], args := [d1, d2, d3] }
  | _ => none }
def LanesTellsWrongFalsely : Prop := lanesTellsRow.holds Try.pinned (OpenSpec.ofChange lanesTellsWrong)

/- THE SECOND FORM. 'bulk': how many values and letters a reading holds, each counted each time it is reached (what is shared counts as often as it is met; a slice's spare places count too). A statement '..UptoSaid' is the law's where the arguments, and the package variables that the reading takes, are together of bulk at most 1048576: NARROWER than '..Said'. Prove '..Said' where nothing that the law and all that it calls make is longer than what came in: it says more and counts as full. Else prove '..UptoSaid'. A law counts once. -/
mutual
def uptoBulk {H : Type} : DataW H → Nat
  | .lit (.string bytes) => bytes.length + 1
  | .lit _ => 1
  | .nil => 1
  | .ptr d => uptoBulk d + 1
  | .slice elems spare => uptoBulkAll elems + uptoBulkAll spare + 1
  | .agg parts => uptoBulkAll parts + 1
  | .iface _ d => uptoBulk d + 1
  | .map entries => uptoBulkEntries entries + 1
  | .held _ => 1
def uptoBulkAll {H : Type} : List (DataW H) → Nat
  | [] => 0
  | d :: r => uptoBulk d + uptoBulkAll r
def uptoBulkEntries {H : Type} : List (Lit × DataW H) → Nat
  | [] => 0
  | x :: r => uptoBulkEntry x + uptoBulkEntries r
def uptoBulkEntry {H : Type} : Lit × DataW H → Nat
  | (.string bytes, d) => bytes.length + uptoBulk d + 1
  | (_, d) => uptoBulk d + 1
 end
def uptoSmall : (H : Type) → List (DataW H) → Bool := fun _ ds => decide (uptoBulkAll ds ≤ 1048576)
def OpenSpec.upto (s : _root_.Go.ChangeSpec) : _root_.Go.OpenSpec := { _root_.Go.OpenSpec.ofChange s with cond := some uptoSmall }

/-- 'riddlelaw03.LanesJoins', WHERE WHAT IT READS IS OF BULK AT MOST 1048576: true; the input reads as it did. -/
def lanesJoinsUptoRow : OpenClaim := { program := "ytbacbjnbfbdjdaa", sum := "df631da8e262b0f9eb9ce208eab0ae0fa6b5e11b0db435f47fe6a613754a8508", func := "riddle/riddlelaw03.LanesJoins", spec := "lanesJoins", apart := false, narrowed := true }
def LanesJoinsUptoSaid : Prop := lanesJoinsUptoRow.holds Try.pinned (OpenSpec.upto lanesJoinsSpec)

/-- 'riddlelaw03.LanesRules', WHERE WHAT IT READS IS OF BULK AT MOST 1048576: true; the input reads as it did. -/
def lanesRulesUptoRow : OpenClaim := { program := "ytbacbjnbfbdjdaa", sum := "df631da8e262b0f9eb9ce208eab0ae0fa6b5e11b0db435f47fe6a613754a8508", func := "riddle/riddlelaw03.LanesRules", spec := "lanesRules", apart := false, narrowed := true }
def LanesRulesUptoSaid : Prop := lanesRulesUptoRow.holds Try.pinned (OpenSpec.upto lanesRulesSpec)

/-- 'riddlelaw03.LanesLoads', WHERE WHAT IT READS IS OF BULK AT MOST 1048576: true; the input reads as it did. -/
def lanesLoadsUptoRow : OpenClaim := { program := "ytbacbjnbfbdjdaa", sum := "df631da8e262b0f9eb9ce208eab0ae0fa6b5e11b0db435f47fe6a613754a8508", func := "riddle/riddlelaw03.LanesLoads", spec := "lanesLoads", apart := false, narrowed := true }
def LanesLoadsUptoSaid : Prop := lanesLoadsUptoRow.holds Try.pinned (OpenSpec.upto lanesLoadsSpec)

/-- 'riddlelaw03.LanesMask', WHERE WHAT IT READS IS OF BULK AT MOST 1048576: true; the input reads as it did. -/
def lanesMaskUptoRow : OpenClaim := { program := "ytbacbjnbfbdjdaa", sum := "df631da8e262b0f9eb9ce208eab0ae0fa6b5e11b0db435f47fe6a613754a8508", func := "riddle/riddlelaw03.LanesMask", spec := "lanesMask", apart := false, narrowed := true }
def LanesMaskUptoSaid : Prop := lanesMaskUptoRow.holds Try.pinned (OpenSpec.upto lanesMaskSpec)

/-- 'riddlelaw03.LanesMoves', WHERE WHAT IT READS IS OF BULK AT MOST 1048576: true; the input reads as it did. -/
def lanesMovesUptoRow : OpenClaim := { program := "ytbacbjnbfbdjdaa", sum := "df631da8e262b0f9eb9ce208eab0ae0fa6b5e11b0db435f47fe6a613754a8508", func := "riddle/riddlelaw03.LanesMoves", spec := "lanesMoves", apart := false, narrowed := true }
def LanesMovesUptoSaid : Prop := lanesMovesUptoRow.holds Try.pinned (OpenSpec.upto lanesMovesSpec)

/-- 'riddlelaw03.LanesTells', WHERE WHAT IT READS IS OF BULK AT MOST 1048576: true; the input reads as it did. -/
def lanesTellsUptoRow : OpenClaim := { program := "ytbacbjnbfbdjdaa", sum := "df631da8e262b0f9eb9ce208eab0ae0fa6b5e11b0db435f47fe6a613754a8508", func := "riddle/riddlelaw03.LanesTells", spec := "lanesTells", apart := false, narrowed := true }
def LanesTellsUptoSaid : Prop := lanesTellsUptoRow.holds Try.pinned (OpenSpec.upto lanesTellsSpec)

end Rows
end Go.Proofs.Ytbacbjnbfbdjdaa
