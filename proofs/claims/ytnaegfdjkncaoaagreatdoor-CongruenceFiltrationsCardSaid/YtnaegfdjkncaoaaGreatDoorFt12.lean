/- Part 12 of the texts for the claim. -/
import Derived.Test.YtnaegfdjkncaoaaGreatDoorFt8
set_option linter.unusedVariables false
set_option linter.unusedSimpArgs false
set_option maxRecDepth 100000
set_option maxHeartbeats 4000000
noncomputable section
namespace Go.Ev
theorem EE:Jq (milM 0 5) (milC 0 5)=true:=by kernel_rfl
theorem EZ:Jq (milM 2 5) (milC 2 5)=true:=by kernel_rfl
theorem G1:Jq (milM 4 5) (milC 4 5)=true:=by kernel_rfl
theorem Fg:Jq (milM 6 5) (milC 6 5)=true:=by kernel_rfl
theorem E9:Jq (milM 8 5) (milC 8 5)=true:=by kernel_rfl
theorem zN:Jq (milM 10 5) (milC 10 5)=true:=by kernel_rfl
theorem A1:Jq (milM 12 5) (milC 12 5)=true:=by kernel_rfl
theorem wO:Jq (milM 14 5) (milC 14 5)=true:=by kernel_rfl
theorem yI:Jq (milM 16 5) (milC 16 5)=true:=by kernel_rfl
theorem zX:Jq (milM 18 5) (milC 18 5)=true:=by kernel_rfl
theorem xQ:Jq (milM 20 5) (milC 20 5)=true:=by kernel_rfl
theorem A3:Jq (milM 22 5) (milC 22 5)=true:=by kernel_rfl
theorem Bp:Jq (milM 24 5) (milC 24 5)=true:=by kernel_rfl
theorem Ae:Jq (milM 26 5) (milC 26 5)=true:=by kernel_rfl
theorem xT:Jq (milM 28 5) (milC 28 5)=true:=by kernel_rfl
theorem wv:Jq (milM 30 5) (milC 30 5)=true:=by kernel_rfl
theorem yW:Jq (milM 32 5) (milC 32 5)=true:=by kernel_rfl
theorem xI:Jq (milM 34 5) (milC 34 5)=true:=by kernel_rfl
theorem AH:Jq (milM 36 5) (milC 36 5)=true:=by kernel_rfl
theorem wV:Jq (milM 38 5) (milC 38 5)=true:=by kernel_rfl
end Go.Ev
