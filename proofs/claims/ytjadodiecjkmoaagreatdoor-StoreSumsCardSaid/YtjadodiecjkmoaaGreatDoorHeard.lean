/-
  Closed facts of the whole program.
-/
import Derived.Test.YtjadodiecjkmoaaGreatDoorProg
import Derived.Test.YtjadodiecjkmoaaGreatDoorJoint
import Derived.KernelRfl
namespace Go.Proofs.YtjadodiecjkmoaaGreatDoor
set_option linter.unusedVariables false
set_option linter.unusedSimpArgs false
open Go Go.Proofs
set_option maxRecDepth 100000
theorem heard58 : Tryz.prog.stopsHeard = true := by kernel_rfl
theorem enter58 : Tryz.prog.mayEnter = true := by kernel_rfl
end Go.Proofs.YtjadodiecjkmoaaGreatDoor
