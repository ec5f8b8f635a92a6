/- Part 14 of the texts for the claim. -/
import Derived.Test.YtnaegfdjkncaoaaGreatDoorFt8
set_option linter.unusedVariables false
set_option linter.unusedSimpArgs false
set_option maxRecDepth 100000
set_option maxHeartbeats 4000000
noncomputable section
namespace Go.Ev
theorem zV:Jq (milM 20 6) (milC 20 6)=true:=by kernel_rfl
theorem Aq:Jq (milM 22 6) (milC 22 6)=true:=by kernel_rfl
theorem Bf:Jq (milM 24 6) (milC 24 6)=true:=by kernel_rfl
theorem Bn:Jq (milM 26 6) (milC 26 6)=true:=by kernel_rfl
theorem BP:Jq (milM 28 6) (milC 28 6)=true:=by kernel_rfl
theorem wL:Jq (milM 30 6) (milC 30 6)=true:=by kernel_rfl
theorem xM:Jq (milM 32 6) (milC 32 6)=true:=by kernel_rfl
theorem B4:Jq (milM 34 6) (milC 34 6)=true:=by kernel_rfl
theorem BJ:Jq (milM 36 6) (milC 36 6)=true:=by kernel_rfl
theorem AJ:Jq (milM 38 6) (milC 38 6)=true:=by kernel_rfl
theorem zC:Jq (milM 40 6) (milC 40 6)=true:=by kernel_rfl
theorem zU:Jq (milM 42 6) (milC 42 6)=true:=by kernel_rfl
theorem At:Jq (milM 44 6) (milC 44 6)=true:=by kernel_rfl
theorem Ao:Jq (milM 46 6) (milC 46 6)=true:=by kernel_rfl
theorem Ak:Jq (milM 48 6) (milC 48 6)=true:=by kernel_rfl
theorem Bx:Jq (milM 50 6) (milC 50 6)=true:=by kernel_rfl
theorem wA:Jq (milM 52 6) (milC 52 6)=true:=by kernel_rfl
theorem AD:Jq (milM 54 6) (milC 54 6)=true:=by kernel_rfl
theorem wx:Jq (milM 56 6) (milC 56 6)=true:=by kernel_rfl
theorem AM:Jq (milM 58 6) (milC 58 6)=true:=by kernel_rfl
end Go.Ev
