/-
  No cell of these rows narrows 'for every input' (looked for: loops, veiled, ifaces, maps, wideKeys, modest, calm, conditions, laid).
  DERIVED. THE GIVEN ROWS OF THIS SEAT. 4 by the template 'for every input the law returns true; each argument reads behind the call as it read before'; 0 by the template 'total and deterministic' (their statements: YtkjpcincjoaeeaaTotals.lean).
  GIVEN WITH THE SEED: the statements are not yours to turn. If you find one false, say at which input.
  Laid BY PROGRAM, IN A SANDBOX (cutbox-rows.mjs): the forced cells as the released guide's own fill.sh prints them over the translation 5fda7d65dd8299dd… (all of the seat's roots in one cut). By AI agents, Wed Nov 11 2026. No macro, syntax, notation, axiom, sorry.
-/
import Derived.Test.YtkjpcincjoaeeaaChecked
import GoSem.Claim
import GoSem.ClaimJoined
import GoSem.ClaimMapViews
import Derived.JoinedTies
import Derived.KernelRfl
namespace Go.Proofs.Ytkjpcincjoaeeaa
/- THE CELL 'sum', in the pinned program and in every row, IS THE sha256 OF THE DUMP (.gsa) THAT YtkjpcincjoaeeaaProg.lean LOADS. Nothing in Lean hashes anything: it is a label: what it is worth is what the hold of that sum in a sandbox is worth. -/
noncomputable def Try.pinned : Pinned := { name := "ytkjpcincjoaeeaa", sum := "5fda7d65dd8299dd42dea816f6bb20b7ce2b1b97b03aac364b5c26c7efc6dfd4", checked := Try.checked }
namespace Rows
def none {H : Type} : Left H := { results := [], args := [] }

/-- 'riddlelaw19.TeddyFeeds': WHATEVER THE INPUT: true; the input reads as it did. -/
def teddyFeedsSpec : ChangeSpec := { name := "teddyFeeds", fn := fun _ => fun
  | [d1, d2] => { results := [.lit (.bool true)], args := [d1, d2] }
  | _ => none }
def teddyFeedsRow : OpenClaim := { program := "ytkjpcincjoaeeaa", sum := "5fda7d65dd8299dd42dea816f6bb20b7ce2b1b97b03aac364b5c26c7efc6dfd4", func := "riddle/riddlelaw19.TeddyFeeds", spec := "teddyFeeds", unfollowed := true, recurses := true, apart := false }
def TeddyFeedsSaid : Prop := teddyFeedsRow.holds Try.pinned (OpenSpec.ofChange teddyFeedsSpec)

/-- ITS FALSE NEIGHBOUR: 'it returns false'. Refute it at one input. -/
def teddyFeedsWrong : ChangeSpec := { name := "teddyFeeds", fn := fun _ => fun
  | [d1, d2] => { results := [.lit (.bool false)], args := [d1, d2] }
  | _ => none }
def TeddyFeedsWrongFalsely : Prop := teddyFeedsRow.holds Try.pinned (OpenSpec.ofChange teddyFeedsWrong)

/-- 'riddlelaw19.TeddyCuts': WHATEVER THE INPUT: true; the input reads as it did. -/
def teddyCutsSpec : ChangeSpec := { name := "teddyCuts", fn := fun _ => fun
  | [d1, d2, d3] => { results := [.lit (.bool true)], args := [d1, d2, d3] }
  | _ => none }
def teddyCutsRow : OpenClaim := { program := "ytkjpcincjoaeeaa", sum := "5fda7d65dd8299dd42dea816f6bb20b7ce2b1b97b03aac364b5c26c7efc6dfd4", func := "riddle/riddlelaw19.TeddyCuts", spec := "teddyCuts", unfollowed := true, recurses := true, apart := false }
def TeddyCutsSaid : Prop := teddyCutsRow.holds Try.pinned (OpenSpec.ofChange teddyCutsSpec)

/-- ITS FALSE NEIGHBOUR: 'it returns false'. Refute it at one input. -/
def teddyCutsWrong : ChangeSpec := { name := "teddyCuts", fn := fun _ => fun
  | [d1, d2, d3] => { results := [.lit (.bool false)], args := [d1, d2, d3] }
  | _ => none }
def TeddyCutsWrongFalsely : Prop := teddyCutsRow.holds Try.pinned (OpenSpec.ofChange teddyCutsWrong)

/-- 'riddlelaw19.TeddyAgrees': WHATEVER THE INPUT: true; the input reads as it did. -/
def teddyAgreesSpec : ChangeSpec := { name := "teddyAgrees", fn := fun _ => fun
  | [d1, d2] => { results := [.lit (.bool true)], args := [d1, d2] }
  | _ => none }
def teddyAgreesRow : OpenClaim := { program := "ytkjpcincjoaeeaa", sum := "5fda7d65dd8299dd42dea816f6bb20b7ce2b1b97b03aac364b5c26c7efc6dfd4", func := "riddle/riddlelaw19.TeddyAgrees", spec := "teddyAgrees", unfollowed := true, recurses := true, apart := false }
def TeddyAgreesSaid : Prop := teddyAgreesRow.holds Try.pinned (OpenSpec.ofChange teddyAgreesSpec)

/-- ITS FALSE NEIGHBOUR: 'it returns false'. Refute it at one input. -/
def teddyAgreesWrong : ChangeSpec := { name := "teddyAgrees", fn := fun _ => fun
  | [d1, d2] => { results := [.lit (.bool false)], args := [d1, d2] }
  | _ => none }
def TeddyAgreesWrongFalsely : Prop := teddyAgreesRow.holds Try.pinned (OpenSpec.ofChange teddyAgreesWrong)

/-- 'riddlelaw19.TeddyFinds': WHATEVER THE INPUT: true; the input reads as it did. -/
def teddyFindsSpec : ChangeSpec := { name := "teddyFinds", fn := fun _ => fun
  | [d1, d2] => { results := [.lit (.bool true)], args := [d1, d2] }
  | _ => none }
def teddyFindsRow : OpenClaim := { program := "ytkjpcincjoaeeaa", sum := "5fda7d65dd8299dd42dea816f6bb20b7ce2b1b97b03aac364b5c26c7efc6dfd4", func := "riddle/riddlelaw19.TeddyFinds", spec := "teddyFinds", unfollowed := true, recurses := true, apart := false }
def TeddyFindsSaid : Prop := teddyFindsRow.holds Try.pinned (OpenSpec.ofChange teddyFindsSpec)

/-- ITS FALSE NEIGHBOUR: 'it returns false'. Refute it at one input. -/
def teddyFindsWrong : ChangeSpec := { name := "teddyFinds", fn := fun _ => fun
  | [d1, d2] => { results := [.lit (.bool false)], args := [d1, d2] }
  | _ => none }
def TeddyFindsWrongFalsely : Prop := teddyFindsRow.holds Try.pinned (OpenSpec.ofChange teddyFindsWrong)

/- THE SECOND FORM. 'bulk': how many values and letters a reading holds, each counted each time it is reached (what is shared counts as often as it is met; a slice's spare places count too). A statement '..UptoSaid' is the law's where the arguments, and the package variables that the reading takes, are together of bulk at most 1048576: NARROWER than '..Said'. Prove '..Said' where nothing that the law and all that it calls make is longer than what came in: it says more and counts as full. Else prove '..UptoSaid'. A law counts once. -/
mutual
def uptoBulk {H : Type} : DataW H → Nat
  | .lit (.string bytes) => bytes.length + 1
  | .lit _ => 1
  | .nil => 1
  | .ptr d => uptoBulk d + 1
  | .slice elems spare => uptoBulkAll elems + uptoBulkAll spare + 1
  | .agg parts => uptoBulkAll parts + 1
  | .iface _ d => uptoBulk d + 1
  | .map entries => uptoBulkEntries entries + 1
  | .held _ => 1
def uptoBulkAll {H : Type} : List (DataW H) → Nat
  | [] => 0
  | d :: r => uptoBulk d + uptoBulkAll r
def uptoBulkEntries {H : Type} : List (Lit × DataW H) → Nat
  | [] => 0
  | x :: r => uptoBulkEntry x + uptoBulkEntries r
def uptoBulkEntry {H : Type} : Lit × DataW H → Nat
  | (.string bytes, d) => bytes.length + uptoBulk d + 1
  | (_, d) => uptoBulk d + 1
 end
def uptoSmall : (H : Type) → List (DataW H) → Bool := fun _ ds => decide (uptoBulkAll ds ≤ 1048576)
def OpenSpec.upto (s : _root_.Go.ChangeSpec) : _root_.Go.OpenSpec := { _root_.Go.OpenSpec.ofChange s with cond := some uptoSmall }

/-- 'riddlelaw19.TeddyFeeds', WHERE WHAT IT READS IS OF BULK AT MOST 1048576: true; the input reads as it did. -/
def teddyFeedsUptoRow : OpenClaim := { program := "ytkjpcincjoaeeaa", sum := "5fda7d65dd8299dd42dea816f6bb20b7ce2b1b97b03aac364b5c26c7efc6dfd4", func := "riddle/riddlelaw19.TeddyFeeds", spec := "teddyFeeds", unfollowed := true, recurses := true, apart := false, narrowed := true }
def TeddyFeedsUptoSaid : Prop := teddyFeedsUptoRow.holds Try.pinned (OpenSpec.upto teddyFeedsSpec)

/-- 'riddlelaw19.TeddyCuts', WHERE WHAT IT READS IS OF BULK AT MOST 1048576: true; the input reads as it did. -/
def teddyCutsUptoRow : OpenClaim := { program := "ytkjpcincjoaeeaa", sum := "5fda7d65dd8299dd42dea816f6bb20b7ce2b1b97b03aac364b5c26c7efc6dfd4", func := "riddle/riddlelaw19.TeddyCuts", spec := "teddyCuts", unfollowed := true, recurses := true, apart := false, narrowed := true }
def TeddyCutsUptoSaid : Prop := teddyCutsUptoRow.holds Try.pinned (OpenSpec.upto teddyCutsSpec)

/-- 'riddlelaw19.TeddyAgrees', WHERE WHAT IT READS IS OF BULK AT MOST 1048576: true; the input reads as it did. -/
def teddyAgreesUptoRow : OpenClaim := { program := "ytkjpcincjoaeeaa", sum := "5fda7d65dd8299dd42dea816f6bb20b7ce2b1b97b03aac364b5c26c7efc6dfd4", func := "riddle/riddlelaw19.TeddyAgrees", spec := "teddyAgrees", unfollowed := true, recurses := true, apart := false, narrowed := true }
def TeddyAgreesUptoSaid : Prop := teddyAgreesUptoRow.holds Try.pinned (OpenSpec.upto teddyAgreesSpec)

/-- 'riddlelaw19.TeddyFinds', WHERE WHAT IT READS IS OF BULK AT MOST 1048576: true; the input reads as it did. -/
def teddyFindsUptoRow : OpenClaim := { program := "ytkjpcincjoaeeaa", sum := "5fda7d65dd8299dd42dea816f6bb20b7ce2b1b97b03aac364b5c26c7efc6dfd4", func := "riddle/riddlelaw19.TeddyFinds", spec := "teddyFinds", unfollowed := true, recurses := true, apart := false, narrowed := true }
def TeddyFindsUptoSaid : Prop := teddyFindsUptoRow.holds Try.pinned (OpenSpec.upto teddyFindsSpec)

end Rows
end Go.Proofs.Ytkjpcincjoaeeaa
