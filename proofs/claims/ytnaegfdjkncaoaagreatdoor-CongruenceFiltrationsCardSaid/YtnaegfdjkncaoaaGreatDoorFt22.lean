/- Part 22 of the texts for the claim. -/
import Derived.Test.YtnaegfdjkncaoaaGreatDoorFt21
set_option linter.unusedVariables false
set_option linter.unusedSimpArgs false
set_option maxRecDepth 100000
set_option maxHeartbeats 4000000
noncomputable section
namespace Go.Proofs.YtnaegfdjkncaoaaGreatDoor
open Go Go.Proofs Go.RowKit
theorem wZip(os:Os)(args:Array Value):((World.laidAll Tryz.prog os za).forCall (fun _ _=>0) ⟨#[],args,[]⟩).variablesZipB Tryz.prog=true:=by kernel_rfl
theorem QJ(os:Os)(args:Array Value):(((World.laidAll Tryz.prog os za).forCall (fun _ _=>0) ⟨#[],args,[]⟩).heap.toList.drop Tryz.prog.globals.size).take ((begin Tryz.prog (fun _ _=>0) default).world.heap.size-Tryz.prog.globals.size)=(begin Tryz.prog (fun _ _=>0) default).world.heap.toList.drop Tryz.prog.globals.size:=by kernel_rfl
theorem Ok(os:Os):(World.holding Tryz.prog os ⟨#[],#[],[]⟩).layFits Tryz.prog za []=true:=by kernel_rfl
theorem Fj(os:Os):(World.holding Tryz.prog os ⟨#[],#[],[]⟩).layIfaces Tryz.prog za (World.laidAll Tryz.prog os za)=true:=by kernel_rfl
theorem Ic:(za.all fun x=>x.2.handleName?.isNone)=true:=by kernel_rfl
theorem IV:Tryz.prog.cellsOf 3=1:=by kernel_rfl
theorem und3:Tryz.prog.underlying 3=some (.int .i64):=by kernel_rfl
theorem und4:Tryz.prog.underlying 4=some .bool:=by kernel_rfl
end Go.Proofs.YtnaegfdjkncaoaaGreatDoor
