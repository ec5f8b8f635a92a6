/-
  The closed facts of the row of function 3, put together.
-/
import Derived.Test.YtjadodiecjkmoaaGreatDoorRows
import Derived.Test.YtjadodiecjkmoaaGreatDoorNamed3
import Derived.Test.YtjadodiecjkmoaaGreatDoorHeard
import Derived.Test.YtjadodiecjkmoaaGreatDoorWhole
namespace Go.Proofs.YtjadodiecjkmoaaGreatDoor
set_option linter.unusedVariables false
set_option linter.unusedSimpArgs false
open Go Go.Proofs
set_option maxRecDepth 100000
theorem j3_h1 : Rows.storeSumsRow.wf (OpenSpec.ofChange Rows.storeSumsSpec) = true := by kernel_rfl
theorem j3_h4 : (Tryz.f3.params.all (Tryz.prog.readableRec ·) && namedTie Tryz.prog Rows.storeSumsRow.named Rows.storeSumsSpec.vars && (Rows.storeSumsRow.stops == []) && (Tryz.prog.stops == []) && (Rows.storeSumsRow.knobs == []) && (Tryz.prog.stopKnobs == [])) = true := by kernel_rfl
theorem j3_h9 : ((Rows.storeSumsRow.maps == (Tryz.f3.params.toList ++ Rows.storeSumsSpec.plain.varTypes Tryz.prog).any (Tryz.prog.mapsRec ·)) && (Rows.storeSumsRow.ifaces == (Tryz.f3.params.toList ++ Rows.storeSumsSpec.plain.varTypes Tryz.prog).any (Tryz.prog.ifacesRec ·)) && (Rows.storeSumsRow.mapsOut == Tryz.prog.mapsAmong Tryz.f3.resultTypes.toList) && (Rows.storeSumsRow.loops == (Tryz.f3.params.toList ++ Rows.storeSumsSpec.plain.varTypes Tryz.prog).any (Tryz.prog.loopsFrom ·)) && (Rows.storeSumsRow.wideKeys == (Tryz.f3.params.toList ++ Rows.storeSumsSpec.plain.varTypes Tryz.prog ++ Tryz.f3.resultTypes.toList).any (Tryz.prog.wideKeysFrom ·))) = true := by kernel_rfl
theorem j3_h10 : (Rows.storeSumsSpec.vars.all (Tryz.prog.varReadable ·) && Tryz.f3.resultTypes.all (fun t => Tryz.prog.readableRec t && decide (t < Tryz.prog.types.size)) && (Rows.storeSumsRow.ifacesOut == Tryz.f3.resultTypes.toList.any (Tryz.prog.ifacesRec ·)) && (Rows.storeSumsRow.loopsOut == Tryz.f3.resultTypes.toList.any (Tryz.prog.loopsFrom ·))) = true := by kernel_rfl
theorem j3_h14 : (Rows.storeSumsRow.lifted == Tryz.prog.liftsFinal && (Tryz.prog.make == some Rows.storeSumsRow.make)) = true := by kernel_rfl
theorem j3_h15 : ((Rows.storeSumsRow.kinds == (if Rows.storeSumsRow.domain.isEmpty then [] else Tryz.f3.params.toList.map fun t => match Tryz.prog.underlying t with | some (.int k) => some k | _ => none)) && (Rows.storeSumsRow.pinned == Rows.storeSumsRow.pinnedBy)) = true := by kernel_rfl
theorem j3_h16 : ((Rows.storeSumsRow.veiled == (Tryz.f3.params.toList ++ Rows.storeSumsSpec.plain.varTypes Tryz.prog ++ Tryz.f3.resultTypes.toList).any (Tryz.prog.veiledRec ·)) && Rows.storeSumsRow.veiledFits Tryz.prog Tryz.f3.params.toList (Tryz.f3.params.toList ++ Rows.storeSumsSpec.plain.varTypes Tryz.prog ++ Tryz.f3.resultTypes.toList)) = true := by kernel_rfl
theorem joint3 : joinedFacts Tryz.prog 3 Tryz.f3 Rows.storeSumsSpec Rows.storeSumsRow = true :=
  Go.Joint.joined j3_h1 laidOut58 mapsRowed58 j3_h4 inPl3 unf3 rec3 named3 j3_h9 j3_h10 keys58 (by rw [heard58]; rfl) enter58 j3_h14 j3_h15 j3_h16
end Go.Proofs.YtjadodiecjkmoaaGreatDoor
