/-
  Closed facts of the program's table of types, by what its check has paid already.
-/
import Derived.Test.YtjadodiecjkmoaaGreatDoorChecked
import Derived.Test.YtjadodiecjkmoaaGreatDoorHeard
import Derived.ClosedOfChecked
import Derived.KernelRfl
namespace Go.Proofs.YtjadodiecjkmoaaGreatDoor
set_option linter.unusedVariables false
set_option linter.unusedSimpArgs false
open Go Go.Proofs
set_option maxRecDepth 100000
theorem hty58 : Tryz.checked.prog.types = Tryz.checked.src.types := by kernel_rfl
theorem rest58 : (Tryz.checked.prog.globals.all (fun g => decide (g.type < Tryz.checked.prog.types.size)) && Tryz.checked.prog.funcs.all (fun f => f.params.all fun t => decide (t < Tryz.checked.prog.types.size))) = true := by kernel_rfl
theorem laidOut58 : laidOutB Tryz.prog = true := ClosedOfChecked.laidOutB_of (ClosedOfChecked.allSpec_of Tryz.checked.wellFormed hty58) rest58
theorem mapsRowed58 : mapsRowed Tryz.prog = true := ClosedOfChecked.mapsRowed_of (ClosedOfChecked.allSpec_of Tryz.checked.wellFormed hty58)
theorem keys58 : Tryz.prog.plainKeys = false := by kernel_rfl
end Go.Proofs.YtjadodiecjkmoaaGreatDoor
