/-
  How much the search for the functions that are reached may take.
-/
import Derived.Test.YtjadodiecjkmoaaGreatDoorProg
import Derived.Test.YtjadodiecjkmoaaGreatDoorJoint
import Derived.KernelRfl
namespace Go.Proofs.YtjadodiecjkmoaaGreatDoor
set_option linter.unusedVariables false
set_option linter.unusedSimpArgs false
open Go Go.Proofs
set_option maxRecDepth 100000
theorem fuelEq : (1 + (Tryz.prog.funcs.toList.map fun g => (Tryz.prog.leadsTo g).length + 1).sum) = 2596 := by kernel_rfl
end Go.Proofs.YtjadodiecjkmoaaGreatDoor
