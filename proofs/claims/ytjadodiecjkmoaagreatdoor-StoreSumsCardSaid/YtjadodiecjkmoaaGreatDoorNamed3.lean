/-
  What function 3 names and reaches.
-/
import Derived.Test.YtjadodiecjkmoaaGreatDoorClo3
namespace Go.Proofs.YtjadodiecjkmoaaGreatDoor
set_option linter.unusedVariables false
set_option linter.unusedSimpArgs false
open Go Go.Proofs
set_option maxRecDepth 100000
theorem inPl3 : Tryz.prog.inPlace 3 = ["internal/bytealg.IndexByteString", "internal/bytealg.IndexString", "internal/abi.NoEscape"] := by
  unfold Program.inPlace
  rw [closure3]
  kernel_rfl
theorem unf3 : Tryz.prog.unfollowed 3 = true := by
  unfold Program.unfollowed
  rw [closure3]
  kernel_rfl
theorem rec3 : Tryz.prog.recurses 3 = true := by
  unfold Program.recurses
  rw [unf3]
  exact Bool.true_or _
theorem named3 : Tryz.prog.varsNamed 3 = ["unicode/utf8.first", "unicode/utf8.acceptRanges", "math/bits.overflowError", "math/bits.deBruijn64tab", "internal/strconv.uint64pow10", "math/bits.deBruijn32tab", "internal/bytealg.MaxLen"] := by
  unfold Program.varsNamed
  rw [closure3]
  kernel_rfl
end Go.Proofs.YtjadodiecjkmoaaGreatDoor
