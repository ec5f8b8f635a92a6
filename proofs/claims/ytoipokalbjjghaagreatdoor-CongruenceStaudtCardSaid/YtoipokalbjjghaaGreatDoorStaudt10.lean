/- Part 10 of the texts for the claim. -/
import Derived.Test.YtoipokalbjjghaaGreatDoorStaudt9
set_option linter.unusedVariables false
set_option linter.unusedSimpArgs false
namespace Go.Ev
theorem num_36 : chkQs (numR 36) (bnQ 37) = true := by kernel_rfl
end Go.Ev
