/-
  One fact of the program's tie: what the run of the door leaves.
-/
import Derived.Test.YtjadodiecjkmoaaGreatDoorRows
import Derived.LaidOnce
namespace Go.Proofs.YtjadodiecjkmoaaGreatDoor
set_option linter.unusedVariables false
set_option linter.unusedSimpArgs false
open Go
def lst : List (String × DataW Unit) := [("unicode/utf8.acceptRanges", Rows.laid_unicode_utf8_acceptRanges), ("math/bits.deBruijn64tab", Rows.laid_math_bits_deBruijn64tab), ("internal/strconv.uint64pow10", Rows.laid_internal_strconv_uint64pow10), ("math/bits.deBruijn32tab", Rows.laid_math_bits_deBruijn32tab)]
theorem knotRun (os : Os) (tape : Tape) : doorLeaves Tryz.prog 400 8 300 lst os tape = some (lst.filter fun x => x.2.handleName?.isNone, (funcsListed lst).map (·.2.funcsOut)) := by kernel_rfl
end Go.Proofs.YtjadodiecjkmoaaGreatDoor
