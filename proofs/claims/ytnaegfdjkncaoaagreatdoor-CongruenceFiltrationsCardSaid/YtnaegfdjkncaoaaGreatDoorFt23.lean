/- Part 23 of the texts for the claim. -/
import Derived.Test.YtnaegfdjkncaoaaGreatDoorFt22
set_option linter.unusedVariables false
set_option linter.unusedSimpArgs false
set_option maxRecDepth 100000
set_option maxHeartbeats 4000000
noncomputable section
namespace Go.Proofs.YtnaegfdjkncaoaaGreatDoor
open Go Go.Proofs
theorem MZ:(1+(Tryz.prog.funcs.toList.map fun g=>(Tryz.prog.leadsTo g).length+1).sum)=2448:=by kernel_rfl
end Go.Proofs.YtnaegfdjkncaoaaGreatDoor
