/-
  The closed facts of the row of function 4, put together.
-/
import Derived.Test.YtjadodiecjkmoaaGreatDoorRows
import Derived.Test.YtjadodiecjkmoaaGreatDoorNamed4
import Derived.Test.YtjadodiecjkmoaaGreatDoorHeard
import Derived.Test.YtjadodiecjkmoaaGreatDoorWhole
namespace Go.Proofs.YtjadodiecjkmoaaGreatDoor
set_option linter.unusedVariables false
set_option linter.unusedSimpArgs false
open Go Go.Proofs
set_option maxRecDepth 100000
theorem j4_h1 : Rows.storeNilRow.wf (OpenSpec.ofChange Rows.storeNilSpec) = true := by kernel_rfl
theorem j4_h4 : (Tryz.f4.params.all (Tryz.prog.readableRec ·) && namedTie Tryz.prog Rows.storeNilRow.named Rows.storeNilSpec.vars && (Rows.storeNilRow.stops == []) && (Tryz.prog.stops == []) && (Rows.storeNilRow.knobs == []) && (Tryz.prog.stopKnobs == [])) = true := by kernel_rfl
theorem j4_h9 : ((Rows.storeNilRow.maps == (Tryz.f4.params.toList ++ Rows.storeNilSpec.plain.varTypes Tryz.prog).any (Tryz.prog.mapsRec ·)) && (Rows.storeNilRow.ifaces == (Tryz.f4.params.toList ++ Rows.storeNilSpec.plain.varTypes Tryz.prog).any (Tryz.prog.ifacesRec ·)) && (Rows.storeNilRow.mapsOut == Tryz.prog.mapsAmong Tryz.f4.resultTypes.toList) && (Rows.storeNilRow.loops == (Tryz.f4.params.toList ++ Rows.storeNilSpec.plain.varTypes Tryz.prog).any (Tryz.prog.loopsFrom ·)) && (Rows.storeNilRow.wideKeys == (Tryz.f4.params.toList ++ Rows.storeNilSpec.plain.varTypes Tryz.prog ++ Tryz.f4.resultTypes.toList).any (Tryz.prog.wideKeysFrom ·))) = true := by kernel_rfl
theorem j4_h10 : (Rows.storeNilSpec.vars.all (Tryz.prog.varReadable ·) && Tryz.f4.resultTypes.all (fun t => Tryz.prog.readableRec t && decide (t < Tryz.prog.types.size)) && (Rows.storeNilRow.ifacesOut == Tryz.f4.resultTypes.toList.any (Tryz.prog.ifacesRec ·)) && (Rows.storeNilRow.loopsOut == Tryz.f4.resultTypes.toList.any (Tryz.prog.loopsFrom ·))) = true := by kernel_rfl
theorem j4_h14 : (Rows.storeNilRow.lifted == Tryz.prog.liftsFinal && (Tryz.prog.make == some Rows.storeNilRow.make)) = true := by kernel_rfl
theorem j4_h15 : ((Rows.storeNilRow.kinds == (if Rows.storeNilRow.domain.isEmpty then [] else Tryz.f4.params.toList.map fun t => match Tryz.prog.underlying t with | some (.int k) => some k | _ => none)) && (Rows.storeNilRow.pinned == Rows.storeNilRow.pinnedBy)) = true := by kernel_rfl
theorem j4_h16 : ((Rows.storeNilRow.veiled == (Tryz.f4.params.toList ++ Rows.storeNilSpec.plain.varTypes Tryz.prog ++ Tryz.f4.resultTypes.toList).any (Tryz.prog.veiledRec ·)) && Rows.storeNilRow.veiledFits Tryz.prog Tryz.f4.params.toList (Tryz.f4.params.toList ++ Rows.storeNilSpec.plain.varTypes Tryz.prog ++ Tryz.f4.resultTypes.toList)) = true := by kernel_rfl
theorem joint4 : joinedFacts Tryz.prog 4 Tryz.f4 Rows.storeNilSpec Rows.storeNilRow = true :=
  Go.Joint.joined j4_h1 laidOut58 mapsRowed58 j4_h4 inPl4 unf4 rec4 named4 j4_h9 j4_h10 keys58 (by rw [heard58]; rfl) enter58 j4_h14 j4_h15 j4_h16
end Go.Proofs.YtjadodiecjkmoaaGreatDoor
