/- Part 11 of the texts for the claim. -/
import Derived.Test.YtnaegfdjkncaoaaGreatDoorFt8
set_option linter.unusedVariables false
set_option linter.unusedSimpArgs false
set_option maxRecDepth 100000
set_option maxHeartbeats 4000000
noncomputable section
namespace Go.Ev
theorem FV:Jq (milM 8 4) (milC 8 4)=true:=by kernel_rfl
theorem wt:Jq (milM 10 4) (milC 10 4)=true:=by kernel_rfl
theorem xD:Jq (milM 12 4) (milC 12 4)=true:=by kernel_rfl
theorem BD:Jq (milM 14 4) (milC 14 4)=true:=by kernel_rfl
theorem zP:Jq (milM 16 4) (milC 16 4)=true:=by kernel_rfl
theorem zA:Jq (milM 18 4) (milC 18 4)=true:=by kernel_rfl
theorem wC:Jq (milM 20 4) (milC 20 4)=true:=by kernel_rfl
theorem Am:Jq (milM 22 4) (milC 22 4)=true:=by kernel_rfl
theorem yU:Jq (milM 24 4) (milC 24 4)=true:=by kernel_rfl
theorem wB:Jq (milM 26 4) (milC 26 4)=true:=by kernel_rfl
theorem xW:Jq (milM 28 4) (milC 28 4)=true:=by kernel_rfl
theorem wq:Jq (milM 30 4) (milC 30 4)=true:=by kernel_rfl
theorem wK:Jq (milM 32 4) (milC 32 4)=true:=by kernel_rfl
theorem Ab:Jq (milM 34 4) (milC 34 4)=true:=by kernel_rfl
theorem BF:Jq (milM 36 4) (milC 36 4)=true:=by kernel_rfl
theorem BK:Jq (milM 38 4) (milC 38 4)=true:=by kernel_rfl
theorem wP:Jq (milM 40 4) (milC 40 4)=true:=by kernel_rfl
theorem AC:Jq (milM 42 4) (milC 42 4)=true:=by kernel_rfl
theorem BU:Jq (milM 44 4) (milC 44 4)=true:=by kernel_rfl
theorem AP:Jq (milM 46 4) (milC 46 4)=true:=by kernel_rfl
end Go.Ev
