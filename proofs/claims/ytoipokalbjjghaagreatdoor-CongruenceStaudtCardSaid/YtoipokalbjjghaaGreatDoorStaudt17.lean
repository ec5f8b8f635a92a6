/- Part 17 of the texts for the claim. -/
import Derived.Test.YtoipokalbjjghaaGreatDoorStaudt16
import Derived.Test.YtoipokalbjjghaaGreatDoorProg
import Derived.KernelRfl
set_option linter.unusedVariables false
set_option linter.unusedSimpArgs false
namespace Go.Proofs.YtoipokalbjjghaaGreatDoor
set_option linter.unusedVariables false
set_option linter.unusedSimpArgs false
open Go Go.Proofs
set_option maxRecDepth 100000
theorem heard57 : Tryz.prog.stopsHeard = true := by kernel_rfl
theorem enter57 : Tryz.prog.mayEnter = true := by kernel_rfl
end Go.Proofs.YtoipokalbjjghaaGreatDoor
