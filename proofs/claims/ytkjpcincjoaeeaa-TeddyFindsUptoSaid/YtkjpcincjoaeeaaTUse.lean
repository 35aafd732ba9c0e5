/- The walks of acho's machine in use: its states, their texts, numbers and ways. -/
import Derived.Test.YtkjpcincjoaeeaaANew
namespace Go.Proofs.Ytkjpcincjoaeeaa.AW
open Go.ChangeShapes Go.WideShapes Go.ChangeAt Go.RowKit
open Go.Proofs.Ytkjpcincjoaeeaa.B Go.Proofs.Ytkjpcincjoaeeaa.AM
set_option linter.unusedVariables false

section
variable {u w : World} {g cn : Nat} {ns : List Nd} {ad : Addr}
theorem pre_at_cell (h : Mach u g ns (some ad) cn w) {s : Nat} {nd : Nd} (hs : ns[s]? = some nd) : w.cell? (ad.add (s * 259)) = some (.slice nd.pA nd.pre.length nd.pc) :=
  (own_cell h.row (s * 259) (.slice nd.pA nd.pre.length nd.pc) (by have := cellsAll_at ns s 0 nd hs (by omega); rw [Nat.add_zero] at this; rw [this]; rfl)).1
end
end Go.Proofs.Ytkjpcincjoaeeaa.AW
