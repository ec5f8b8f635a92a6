/- Part 11 of the texts for the claim. -/
import Derived.Test.YtoipokalbjjghaaGreatDoorStaudt10
set_option linter.unusedVariables false
set_option linter.unusedSimpArgs false
namespace Go.Ev
theorem num_40 : chkQs (numR 40) (bnQ 41) = true := by kernel_rfl
end Go.Ev
