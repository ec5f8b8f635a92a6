/- Part 25 of the texts for the claim. -/
import Derived.Test.YtnaegfdjkncaoaaGreatDoorFt24
set_option linter.unusedVariables false
set_option linter.unusedSimpArgs false
set_option maxRecDepth 100000
set_option maxHeartbeats 4000000
noncomputable section
namespace Go.Proofs.YtnaegfdjkncaoaaGreatDoor
open Go Go.Proofs
theorem ND:Tryz.prog.inPlace 3=[]:=by
 unfold Program.inPlace;rw[ir]
 kernel_rfl
theorem unf3:Tryz.prog.unfollowed 3=true:=by
 unfold Program.unfollowed;rw[ir]
 kernel_rfl
theorem rec3:Tryz.prog.recurses 3=true:=by
 unfold Program.recurses;rw[unf3];exact Bool.true_or _
theorem HL:Tryz.prog.varsNamed 3=["math/bits.deBruijn64tab","math/bits.overflowError"]:=by
 unfold Program.varsNamed;rw[ir]
 kernel_rfl
end Go.Proofs.YtnaegfdjkncaoaaGreatDoor
