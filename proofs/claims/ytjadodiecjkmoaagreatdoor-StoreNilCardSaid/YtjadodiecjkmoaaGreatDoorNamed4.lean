/-
  What function 4 names and reaches.
-/
import Derived.Test.YtjadodiecjkmoaaGreatDoorClo4
namespace Go.Proofs.YtjadodiecjkmoaaGreatDoor
set_option linter.unusedVariables false
set_option linter.unusedSimpArgs false
open Go Go.Proofs
set_option maxRecDepth 100000
theorem inPl4 : Tryz.prog.inPlace 4 = ["internal/bytealg.IndexByteString", "internal/bytealg.IndexString", "internal/abi.NoEscape"] := by
  unfold Program.inPlace
  rw [closure4]
  kernel_rfl
theorem unf4 : Tryz.prog.unfollowed 4 = true := by
  unfold Program.unfollowed
  rw [closure4]
  kernel_rfl
theorem rec4 : Tryz.prog.recurses 4 = true := by
  unfold Program.recurses
  rw [unf4]
  exact Bool.true_or _
theorem named4 : Tryz.prog.varsNamed 4 = ["unicode/utf8.first", "unicode/utf8.acceptRanges", "math/bits.overflowError", "math/bits.deBruijn64tab", "internal/strconv.uint64pow10", "math/bits.deBruijn32tab", "internal/bytealg.MaxLen"] := by
  unfold Program.varsNamed
  rw [closure4]
  kernel_rfl
end Go.Proofs.YtjadodiecjkmoaaGreatDoor
