/- Part 9 of the texts for the claim. -/
import Derived.Test.YtnaegfdjkncaoaaGreatDoorFt8
set_option linter.unusedVariables false
set_option linter.unusedSimpArgs false
set_option maxRecDepth 100000
set_option maxHeartbeats 4000000
noncomputable section
namespace Go.Ev
theorem Gi:Jq (milM 0 1) (milC 0 1)=true:=by kernel_rfl
theorem FD:Jq (milM 2 1) (milC 2 1)=true:=by kernel_rfl
theorem Ef:Jq (milM 4 1) (milC 4 1)=true:=by kernel_rfl
theorem EL:Jq (milM 6 1) (milC 6 1)=true:=by kernel_rfl
theorem Gt:Jq (milM 8 1) (milC 8 1)=true:=by kernel_rfl
theorem AR:Jq (milM 10 1) (milC 10 1)=true:=by kernel_rfl
theorem Eh:Jq (milM 0 2) (milC 0 2)=true:=by kernel_rfl
theorem EU:Jq (milM 2 2) (milC 2 2)=true:=by kernel_rfl
theorem GM:Jq (milM 4 2) (milC 4 2)=true:=by kernel_rfl
theorem Ds:Jq (milM 6 2) (milC 6 2)=true:=by kernel_rfl
theorem Fh:Jq (milM 8 2) (milC 8 2)=true:=by kernel_rfl
theorem Ad:Jq (milM 10 2) (milC 10 2)=true:=by kernel_rfl
theorem xF:Jq (milM 12 2) (milC 12 2)=true:=by kernel_rfl
theorem A0:Jq (milM 14 2) (milC 14 2)=true:=by kernel_rfl
theorem BE:Jq (milM 16 2) (milC 16 2)=true:=by kernel_rfl
theorem B0:Jq (milM 18 2) (milC 18 2)=true:=by kernel_rfl
theorem yA:Jq (milM 20 2) (milC 20 2)=true:=by kernel_rfl
theorem Bv:Jq (milM 22 2) (milC 22 2)=true:=by kernel_rfl
theorem FH:Jq (milM 0 3) (milC 0 3)=true:=by kernel_rfl
theorem Ee:Jq (milM 2 3) (milC 2 3)=true:=by kernel_rfl
end Go.Ev
