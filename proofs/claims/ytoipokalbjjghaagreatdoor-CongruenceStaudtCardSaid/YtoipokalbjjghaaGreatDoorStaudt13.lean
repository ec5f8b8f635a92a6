/- Part 13 of the texts for the claim. -/
import Derived.Test.YtoipokalbjjghaaGreatDoorStaudt12
set_option linter.unusedVariables false
set_option linter.unusedSimpArgs false
namespace Go.Ev
theorem run_5 : runB 5 = true := by kernel_rfl
theorem run_7 : runB 7 = true := by kernel_rfl
theorem run_11 : runB 11 = true := by kernel_rfl
theorem run_13 : runB 13 = true := by kernel_rfl
theorem run_17 : runB 17 = true := by kernel_rfl
end Go.Ev
