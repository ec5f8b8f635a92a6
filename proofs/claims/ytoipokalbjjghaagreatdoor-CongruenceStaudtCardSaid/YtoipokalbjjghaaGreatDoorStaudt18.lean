/- Part 18 of the texts for the claim. -/
import Derived.Test.YtoipokalbjjghaaGreatDoorStaudt17
import Derived.Test.YtoipokalbjjghaaGreatDoorChecked
import Derived.ClosedOfChecked
import Derived.KernelRfl
set_option linter.unusedVariables false
set_option linter.unusedSimpArgs false
namespace Go.Proofs.YtoipokalbjjghaaGreatDoor
set_option linter.unusedVariables false
set_option linter.unusedSimpArgs false
open Go Go.Proofs
set_option maxRecDepth 100000
theorem hty57 : Tryz.checked.prog.types = Tryz.checked.src.types := by kernel_rfl
theorem rest57 : (Tryz.checked.prog.globals.all (fun g => decide (g.type < Tryz.checked.prog.types.size)) && Tryz.checked.prog.funcs.all (fun f => f.params.all fun t => decide (t < Tryz.checked.prog.types.size))) = true := by kernel_rfl
theorem laidOut57 : laidOutB Tryz.prog = true := ClosedOfChecked.laidOutB_of (ClosedOfChecked.allSpec_of Tryz.checked.wellFormed hty57) rest57
theorem mapsRowed57 : mapsRowed Tryz.prog = true := ClosedOfChecked.mapsRowed_of (ClosedOfChecked.allSpec_of Tryz.checked.wellFormed hty57)
theorem keys57 : Tryz.prog.plainKeys = false := by kernel_rfl
end Go.Proofs.YtoipokalbjjghaaGreatDoor
