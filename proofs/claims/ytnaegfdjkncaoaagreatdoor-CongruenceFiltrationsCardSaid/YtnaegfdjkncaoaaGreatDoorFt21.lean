/- Part 21 of the texts for the claim. -/
import Derived.Test.YtnaegfdjkncaoaaGreatDoorFt20
set_option linter.unusedVariables false
set_option linter.unusedSimpArgs false
set_option maxRecDepth 100000
set_option maxHeartbeats 4000000
noncomputable section
namespace Go.Proofs.YtnaegfdjkncaoaaGreatDoor
open Go Go.Proofs
theorem Lf:Tryz.checked.prog.types=Tryz.checked.src.types:=by kernel_rfl
theorem Iw:(Tryz.checked.prog.globals.all (fun g=>decide (g.type<Tryz.checked.prog.types.size))&&Tryz.checked.prog.funcs.all (fun f=>f.params.all fun t=>decide (t<Tryz.checked.prog.types.size)))=true:=by kernel_rfl
theorem js:laidOutB Tryz.prog=true:=ClosedOfChecked.laidOutB_of (ClosedOfChecked.allSpec_of Tryz.checked.wellFormed Lf) Iw
theorem mM:mapsRowed Tryz.prog=true:=ClosedOfChecked.mapsRowed_of (ClosedOfChecked.allSpec_of Tryz.checked.wellFormed Lf)
theorem Mo:Tryz.prog.plainKeys=false:=by kernel_rfl
end Go.Proofs.YtnaegfdjkncaoaaGreatDoor
