/-
  Closed facts on the program: types and functions that the walks of the checksum use.
-/
import Derived.Test.YtjadodiecjkmoaaGreatDoorCoreF
import Derived.Test.YtjadodiecjkmoaaGreatDoorProg
import Derived.KernelRfl
namespace Go.Wf
set_option linter.unusedVariables false
set_option linter.unusedSimpArgs false
open Go Go.Proofs
set_option maxRecDepth 100000
theorem io3 : infoOf Tryz.prog 3 = some (.int .i64 0, 1, 8) := by kernel_rfl
theorem pl3 : plainTy Tryz.prog 3 = true := by kernel_rfl
theorem io5 : infoOf Tryz.prog 5 = some (.int .u8 0, 1, 1) := by kernel_rfl
theorem pl5 : plainTy Tryz.prog 5 = true := by kernel_rfl
theorem io22 : infoOf Tryz.prog 22 = some (.slice none 0 0, 1, 24) := by kernel_rfl
theorem pl22 : plainTy Tryz.prog 22 = true := by kernel_rfl
theorem io24 : infoOf Tryz.prog 24 = some (.int .u32 0, 1, 4) := by kernel_rfl
theorem pl24 : plainTy Tryz.prog 24 = true := by kernel_rfl
theorem sl22 : Tryz.prog.underlying 22 = some (.slice 5) := by kernel_rfl
theorem un3 : Tryz.prog.underlying 3 = some (.int .i64) := by kernel_rfl
theorem us3 : (Tryz.prog.underlying 3).isSome = true := by kernel_rfl
theorem un5 : Tryz.prog.underlying 5 = some (.int .u8) := by kernel_rfl
theorem us5 : (Tryz.prog.underlying 5).isSome = true := by kernel_rfl
theorem un24 : Tryz.prog.underlying 24 = some (.int .u32) := by kernel_rfl
theorem us24 : (Tryz.prog.underlying 24).isSome = true := by kernel_rfl
theorem cb6 : callable Tryz.prog 6 = true := by kernel_rfl
theorem cb7 : callable Tryz.prog 7 = true := by kernel_rfl
theorem cb8 : callable Tryz.prog 8 = true := by kernel_rfl
end Go.Wf
