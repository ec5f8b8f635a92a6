/- Part 7 of the texts for the claim. -/
import Derived.Test.YtnaegfdjkncaoaaGreatDoorFt6
set_option linter.unusedVariables false
set_option linter.unusedSimpArgs false
set_option maxRecDepth 100000
set_option maxHeartbeats 4000000
noncomputable section
namespace Go.Ev
theorem Hh:Ya (eisR 4 1) 0 (eisC 4 1)=true:=by kernel_rfl
theorem ER:Ya (eisR 6 1) 0 (eisC 6 1)=true:=by kernel_rfl
theorem GI:Ya (eisR 8 1) 0 (eisC 8 1)=true:=by kernel_rfl
theorem ww:Ya (eisR 10 1) 0 (eisC 10 1)=true:=by kernel_rfl
theorem wo:Ya (eisR 14 1) 0 (eisC 14 1)=true:=by kernel_rfl
theorem F7:Ya (eisR 4 2) 0 (eisC 4 2)=true:=by kernel_rfl
theorem Ej:Ya (eisR 6 2) 0 (eisC 6 2)=true:=by kernel_rfl
theorem Hd:Ya (eisR 8 2) 0 (eisC 8 2)=true:=by kernel_rfl
theorem xH:Ya (eisR 10 2) 0 (eisC 10 2)=true:=by kernel_rfl
theorem yK:Ya (eisR 14 2) 0 (eisC 14 2)=true:=by kernel_rfl
theorem FI:Ya (eisR 4 3) 0 (eisC 4 3)=true:=by kernel_rfl
theorem DC:Ya (eisR 6 3) 0 (eisC 6 3)=true:=by kernel_rfl
theorem Gv:Ya (eisR 8 3) 0 (eisC 8 3)=true:=by kernel_rfl
theorem yV:Ya (eisR 10 3) 0 (eisC 10 3)=true:=by kernel_rfl
theorem zL:Ya (eisR 14 3) 0 (eisC 14 3)=true:=by kernel_rfl
theorem D4:Ya (eisR 4 4) 0 (eisC 4 4)=true:=by kernel_rfl
theorem Hr:Ya (eisR 6 4) 0 (eisC 6 4)=true:=by kernel_rfl
theorem Gm:Ya (eisR 8 4) 0 (eisC 8 4)=true:=by kernel_rfl
theorem BO:Ya (eisR 10 4) 0 (eisC 10 4)=true:=by kernel_rfl
theorem BL:Ya (eisR 14 4) 0 (eisC 14 4)=true:=by kernel_rfl
theorem FC:Ya (eisR 4 5) 0 (eisC 4 5)=true:=by kernel_rfl
theorem DU:Ya (eisR 6 5) 0 (eisC 6 5)=true:=by kernel_rfl
theorem Fl:Ya (eisR 8 5) 0 (eisC 8 5)=true:=by kernel_rfl
theorem AW:Ya (eisR 10 5) 0 (eisC 10 5)=true:=by kernel_rfl
theorem Ba:Ya (eisR 14 5) 0 (eisC 14 5)=true:=by kernel_rfl
theorem Hk:Ya (eisR 4 6) 0 (eisC 4 6)=true:=by kernel_rfl
theorem ED:Ya (eisR 6 6) 0 (eisC 6 6)=true:=by kernel_rfl
theorem GL:Ya (eisR 8 6) 0 (eisC 8 6)=true:=by kernel_rfl
theorem Bc:Ya (eisR 10 6) 0 (eisC 10 6)=true:=by kernel_rfl
theorem AQ:Ya (eisR 14 6) 0 (eisC 14 6)=true:=by kernel_rfl
theorem P4:Ya (delR 1) 1 (delC 1)=true:=by kernel_rfl
theorem OB:Ya (delR 2) 1 (delC 2)=true:=by kernel_rfl
theorem P7:Ya (delR 3) 1 (delC 3)=true:=by kernel_rfl
theorem NV:Ya (delR 4) 1 (delC 4)=true:=by kernel_rfl
theorem OC:Ya (delR 5) 1 (delC 5)=true:=by kernel_rfl
theorem Nt:Ya (delR 6) 1 (delC 6)=true:=by kernel_rfl
end Go.Ev
