/- Part 13 of the texts for the claim. -/
import Derived.Test.YtnaegfdjkncaoaaGreatDoorFt8
set_option linter.unusedVariables false
set_option linter.unusedSimpArgs false
set_option maxRecDepth 100000
set_option maxHeartbeats 4000000
noncomputable section
namespace Go.Ev
theorem AO:Jq (milM 40 5) (milC 40 5)=true:=by kernel_rfl
theorem Bq:Jq (milM 42 5) (milC 42 5)=true:=by kernel_rfl
theorem wE:Jq (milM 44 5) (milC 44 5)=true:=by kernel_rfl
theorem Aw:Jq (milM 46 5) (milC 46 5)=true:=by kernel_rfl
theorem BX:Jq (milM 48 5) (milC 48 5)=true:=by kernel_rfl
theorem A8:Jq (milM 50 5) (milC 50 5)=true:=by kernel_rfl
theorem Ar:Jq (milM 52 5) (milC 52 5)=true:=by kernel_rfl
theorem zO:Jq (milM 54 5) (milC 54 5)=true:=by kernel_rfl
theorem xS:Jq (milM 56 5) (milC 56 5)=true:=by kernel_rfl
theorem B3:Jq (milM 58 5) (milC 58 5)=true:=by kernel_rfl
theorem D3:Jq (milM 0 6) (milC 0 6)=true:=by kernel_rfl
theorem Eu:Jq (milM 2 6) (milC 2 6)=true:=by kernel_rfl
theorem Ec:Jq (milM 4 6) (milC 4 6)=true:=by kernel_rfl
theorem Hm:Jq (milM 6 6) (milC 6 6)=true:=by kernel_rfl
theorem Fq:Jq (milM 8 6) (milC 8 6)=true:=by kernel_rfl
theorem Ah:Jq (milM 10 6) (milC 10 6)=true:=by kernel_rfl
theorem xY:Jq (milM 12 6) (milC 12 6)=true:=by kernel_rfl
theorem Be:Jq (milM 14 6) (milC 14 6)=true:=by kernel_rfl
theorem zB:Jq (milM 16 6) (milC 16 6)=true:=by kernel_rfl
theorem Bz:Jq (milM 18 6) (milC 18 6)=true:=by kernel_rfl
end Go.Ev
