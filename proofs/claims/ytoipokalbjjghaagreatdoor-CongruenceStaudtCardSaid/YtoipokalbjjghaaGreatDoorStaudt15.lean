/- Part 15 of the texts for the claim. -/
import Derived.Test.YtoipokalbjjghaaGreatDoorStaudt14
set_option linter.unusedVariables false
set_option linter.unusedSimpArgs false
namespace Go.Ev
theorem run_31 : runB 31 = true := by kernel_rfl
theorem run_37 : runB 37 = true := by kernel_rfl
theorem run_41 : runB 41 = true := by kernel_rfl
end Go.Ev
