/- Part 14 of the texts for the claim. -/
import Derived.Test.YtoipokalbjjghaaGreatDoorStaudt13
set_option linter.unusedVariables false
set_option linter.unusedSimpArgs false
namespace Go.Ev
theorem run_19 : runB 19 = true := by kernel_rfl
theorem run_23 : runB 23 = true := by kernel_rfl
theorem run_29 : runB 29 = true := by kernel_rfl
end Go.Ev
