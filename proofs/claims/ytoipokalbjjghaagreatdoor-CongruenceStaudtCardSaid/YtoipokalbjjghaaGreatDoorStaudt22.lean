/- Part 22 of the texts for the claim. -/
import Derived.Test.YtoipokalbjjghaaGreatDoorStaudt21
set_option linter.unusedVariables false
set_option linter.unusedSimpArgs false
namespace Go.Proofs.YtoipokalbjjghaaGreatDoor
set_option linter.unusedVariables false
set_option linter.unusedSimpArgs false
open Go Go.Proofs
set_option maxRecDepth 100000
theorem inPl3 : Tryz.prog.inPlace 3 = [] := by
  unfold Program.inPlace
  rw [closure3]
  kernel_rfl
theorem unf3 : Tryz.prog.unfollowed 3 = true := by
  unfold Program.unfollowed
  rw [closure3]
  kernel_rfl
theorem rec3 : Tryz.prog.recurses 3 = true := by
  unfold Program.recurses
  rw [unf3]
  exact Bool.true_or _
theorem named3 : Tryz.prog.varsNamed 3 = ["math/bits.deBruijn64tab", "math/bits.overflowError"] := by
  unfold Program.varsNamed
  rw [closure3]
  kernel_rfl
end Go.Proofs.YtoipokalbjjghaaGreatDoor
