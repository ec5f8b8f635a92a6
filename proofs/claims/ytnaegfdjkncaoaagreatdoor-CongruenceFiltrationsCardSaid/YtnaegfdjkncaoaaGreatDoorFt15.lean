/- Part 15 of the texts for the claim. -/
import Derived.Test.YtnaegfdjkncaoaaGreatDoorFt8
set_option linter.unusedVariables false
set_option linter.unusedSimpArgs false
set_option maxRecDepth 100000
set_option maxHeartbeats 4000000
noncomputable section
namespace Go.Ev
theorem xP:Jq (milM 60 6) (milC 60 6)=true:=by kernel_rfl
end Go.Ev
