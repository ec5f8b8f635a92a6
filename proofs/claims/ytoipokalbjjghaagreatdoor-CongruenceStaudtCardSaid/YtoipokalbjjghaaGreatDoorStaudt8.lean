/- Part 8 of the texts for the claim. -/
import Derived.Test.YtoipokalbjjghaaGreatDoorStaudt7
set_option linter.unusedVariables false
set_option linter.unusedSimpArgs false
namespace Go.Ev
theorem num_4 : chkQs (numR 4) (bnQ 5) = true := by kernel_rfl
theorem num_6 : chkQs (numR 6) (bnQ 7) = true := by kernel_rfl
theorem num_10 : chkQs (numR 10) (bnQ 11) = true := by kernel_rfl
theorem num_12 : chkQs (numR 12) (bnQ 13) = true := by kernel_rfl
theorem num_16 : chkQs (numR 16) (bnQ 17) = true := by kernel_rfl
theorem num_18 : chkQs (numR 18) (bnQ 19) = true := by kernel_rfl
end Go.Ev
