/- Part 20 of the texts for the claim. -/
import Derived.Test.YtnaegfdjkncaoaaGreatDoorFt19
set_option linter.unusedVariables false
set_option linter.unusedSimpArgs false
set_option maxRecDepth 100000
set_option maxHeartbeats 4000000
noncomputable section
namespace Go.Proofs.YtnaegfdjkncaoaaGreatDoor
open Go Go.Proofs
theorem Hj:Tryz.prog.stopsHeard=true:=by kernel_rfl
theorem Gz:Tryz.prog.mayEnter=true:=by kernel_rfl
end Go.Proofs.YtnaegfdjkncaoaaGreatDoor
