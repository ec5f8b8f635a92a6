/- Part 9 of the texts for the claim. -/
import Derived.Test.YtoipokalbjjghaaGreatDoorStaudt8
set_option linter.unusedVariables false
set_option linter.unusedSimpArgs false
namespace Go.Ev
theorem num_22 : chkQs (numR 22) (bnQ 23) = true := by kernel_rfl
theorem num_28 : chkQs (numR 28) (bnQ 29) = true := by kernel_rfl
theorem num_30 : chkQs (numR 30) (bnQ 31) = true := by kernel_rfl
end Go.Ev
