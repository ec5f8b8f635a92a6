/- Part 18 of the texts for the claim. -/
import Derived.Test.YtnaegfdjkncaoaaGreatDoorFt17
set_option linter.unusedVariables false
set_option linter.unusedSimpArgs false
set_option maxRecDepth 100000
set_option maxHeartbeats 4000000
noncomputable section
namespace Go.Ev
open Go Go.Wf Go.Proofs
theorem ue:tt (Qn Tryz.prog (prL TB) (fun _=>0) 100 5 [] (hpG 2 Vx))=true:=by kernel_rfl
theorem awake_c{w:World}(hT:Xo w 2 Vx):Calls Tryz.prog 5 #[] w (Ret w fun v _=>v= .bool true):=by
 refine(lP exS0 (uH JL) mixed ue (by decide) w hT).mono ?_
 rintro en w' ⟨rfl,hb⟩;exact⟨rfl,hb⟩
end Go.Ev
