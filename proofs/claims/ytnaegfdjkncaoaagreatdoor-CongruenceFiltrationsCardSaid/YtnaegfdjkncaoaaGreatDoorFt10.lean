/- Part 10 of the texts for the claim. -/
import Derived.Test.YtnaegfdjkncaoaaGreatDoorFt8
set_option linter.unusedVariables false
set_option linter.unusedSimpArgs false
set_option maxRecDepth 100000
set_option maxHeartbeats 4000000
noncomputable section
namespace Go.Ev
theorem Ge:Jq (milM 4 3) (milC 4 3)=true:=by kernel_rfl
theorem D5:Jq (milM 6 3) (milC 6 3)=true:=by kernel_rfl
theorem Gf:Jq (milM 8 3) (milC 8 3)=true:=by kernel_rfl
theorem BW:Jq (milM 10 3) (milC 10 3)=true:=by kernel_rfl
theorem B1:Jq (milM 12 3) (milC 12 3)=true:=by kernel_rfl
theorem wQ:Jq (milM 14 3) (milC 14 3)=true:=by kernel_rfl
theorem yC:Jq (milM 16 3) (milC 16 3)=true:=by kernel_rfl
theorem yH:Jq (milM 18 3) (milC 18 3)=true:=by kernel_rfl
theorem zY:Jq (milM 20 3) (milC 20 3)=true:=by kernel_rfl
theorem xA:Jq (milM 22 3) (milC 22 3)=true:=by kernel_rfl
theorem wR:Jq (milM 24 3) (milC 24 3)=true:=by kernel_rfl
theorem w9:Jq (milM 26 3) (milC 26 3)=true:=by kernel_rfl
theorem wY:Jq (milM 28 3) (milC 28 3)=true:=by kernel_rfl
theorem A6:Jq (milM 30 3) (milC 30 3)=true:=by kernel_rfl
theorem zZ:Jq (milM 32 3) (milC 32 3)=true:=by kernel_rfl
theorem Bi:Jq (milM 34 3) (milC 34 3)=true:=by kernel_rfl
theorem Fe:Jq (milM 0 4) (milC 0 4)=true:=by kernel_rfl
theorem Ht:Jq (milM 2 4) (milC 2 4)=true:=by kernel_rfl
theorem G3:Jq (milM 4 4) (milC 4 4)=true:=by kernel_rfl
theorem GE:Jq (milM 6 4) (milC 6 4)=true:=by kernel_rfl
end Go.Ev
