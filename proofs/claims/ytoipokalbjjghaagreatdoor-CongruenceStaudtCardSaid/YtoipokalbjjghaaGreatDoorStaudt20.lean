/- Part 20 of the texts for the claim. -/
import Derived.Test.YtoipokalbjjghaaGreatDoorStaudt19
import Derived.Test.YtoipokalbjjghaaGreatDoorProg
import Derived.KernelRfl
set_option linter.unusedVariables false
set_option linter.unusedSimpArgs false
namespace Go.Proofs.YtoipokalbjjghaaGreatDoor
set_option linter.unusedVariables false
set_option linter.unusedSimpArgs false
open Go Go.Proofs
set_option maxRecDepth 100000
theorem fuelEq : (1 + (Tryz.prog.funcs.toList.map fun g => (Tryz.prog.leadsTo g).length + 1).sum) = 2253 := by kernel_rfl
end Go.Proofs.YtoipokalbjjghaaGreatDoor
