/-
  The table of bit positions, where the row's condition lays it; a start where all is laid.
-/
import Derived.Test.YtjadodiecjkmoaaGreatDoorRows
import Derived.Test.YtjadodiecjkmoaaGreatDoorNil2
import Derived.ProofKit
import Derived.Lay
import Derived.Carry
import Derived.LaidMore
import Derived.OpenShut
import Derived.MakeChecks
import Derived.Lib.LaidU8
import Derived.Lib.SmallJoins
namespace Go.Proofs.YtjadodiecjkmoaaGreatDoor
set_option linter.unusedVariables false
set_option linter.unusedSimpArgs false
open Go Go.Ev Go.Wf Go.RowKit Go.Proofs
def nums64 : List Int := [0, 1, 56, 2, 57, 49, 28, 3, 61, 58, 42, 50, 38, 29, 17, 4, 62, 47, 59, 36, 45, 43, 51, 22, 53, 39, 33, 30, 24, 18, 12, 5, 63, 55, 48, 27, 60, 41, 37, 16, 46, 35, 44, 21, 52, 32, 23, 11, 54, 26, 40, 15, 34, 20, 31, 10, 25, 14, 19, 9, 13, 8, 7, 6]
theorem nums64_av : tab64 = nums64.map (fun z => AV.i .u8 z) := by rfl
theorem nums64_data : (Rows.laid_math_bits_deBruijn64tab : DataW Unit) = Lib.tabData .u8 nums64 := by rfl
def laidL : List (String × DataW Unit) := Rows.storeNilRow.laid
theorem g64 : Tryz.prog.globalNamed "math/bits.deBruijn64tab" = some 1 := by kernel_rfl
theorem t64 : (Tryz.prog.globals[1]?).map (·.type) = some 451 := by kernel_rfl
theorem u5 : Tryz.prog.underlying 5 = some (.int .u8) := by kernel_rfl
theorem c5 : Tryz.prog.cellsOf 5 = 1 := by kernel_rfl
theorem c451 : Tryz.prog.cellsOf 451 = 64 := by kernel_rfl
theorem tabs58 {W : World} (h : laidMetH Tryz.prog laidL W) : TabsIn W 7 [(1, tab64)] := by
  rw [MakeChecks.laidMetH_plain _ _ _ (by kernel_rfl)] at h
  obtain ⟨g, t, cs, fuel, p, h1, h2, h3, h4⟩ := Lib.laidMet.reads h (n := "math/bits.deBruijn64tab") (d := Rows.laid_math_bits_deBruijn64tab) (by first | exact .tail _ (.head _) | exact .tail _ (.tail _ (.head _)) | exact .tail _ (.tail _ (.tail _ (.head _))))
  obtain rfl := Option.some.inj (g64.symm.trans h1)
  obtain rfl := Option.some.inj (t64.symm.trans h2)
  rw [nums64_data] at h4
  have hcs := Lib.cells_of_tab Tryz.underlying451 u5 c5 c451 h4
  intro q hq
  obtain rfl : q = (1, tab64) := by simpa using hq
  refine ⟨by decide, ?_⟩
  unfold World.var? at h3
  rw [h1] at h3
  simp only [Option.bind_some] at h3
  split at h3
  · rename_i C T fr hC
    cases h3
    refine ⟨_, T, fr, hC, fun Φ i a hi => ?_⟩
    have hi : tab64[i]? = some a := hi
    rw [nums64_av, List.getElem?_map] at hi
    simp only [Option.map_eq_some_iff] at hi
    obtain ⟨z, hz, rfl⟩ := hi
    refine ⟨.int .u8 z, ?_, by simp only [Rv]⟩
    rw [Nat.zero_add, ← Array.getElem?_toList, hcs, List.getElem?_map, hz]
    rfl
  · cases h3
theorem own58 : ownKnob Tryz.prog.godebug = none := by kernel_rfl
end Go.Proofs.YtjadodiecjkmoaaGreatDoor
