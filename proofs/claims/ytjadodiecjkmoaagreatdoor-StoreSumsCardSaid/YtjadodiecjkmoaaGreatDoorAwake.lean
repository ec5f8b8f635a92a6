/-
  The run of awake by the machine: it returns true.
-/
import Derived.Test.YtjadodiecjkmoaaGreatDoorEvS
import Derived.Test.YtjadodiecjkmoaaGreatDoorProg
import Derived.KernelRfl
namespace Go.Proofs.YtjadodiecjkmoaaGreatDoor
set_option linter.unusedVariables false
set_option linter.unusedSimpArgs false
open Go Go.Ev
def tab64 : List AV := [.i .u8 (Int.ofNat 0), .i .u8 (Int.ofNat 1), .i .u8 (Int.ofNat 56), .i .u8 (Int.ofNat 2), .i .u8 (Int.ofNat 57), .i .u8 (Int.ofNat 49), .i .u8 (Int.ofNat 28), .i .u8 (Int.ofNat 3), .i .u8 (Int.ofNat 61), .i .u8 (Int.ofNat 58), .i .u8 (Int.ofNat 42), .i .u8 (Int.ofNat 50), .i .u8 (Int.ofNat 38), .i .u8 (Int.ofNat 29), .i .u8 (Int.ofNat 17), .i .u8 (Int.ofNat 4), .i .u8 (Int.ofNat 62), .i .u8 (Int.ofNat 47), .i .u8 (Int.ofNat 59), .i .u8 (Int.ofNat 36), .i .u8 (Int.ofNat 45), .i .u8 (Int.ofNat 43), .i .u8 (Int.ofNat 51), .i .u8 (Int.ofNat 22), .i .u8 (Int.ofNat 53), .i .u8 (Int.ofNat 39), .i .u8 (Int.ofNat 33), .i .u8 (Int.ofNat 30), .i .u8 (Int.ofNat 24), .i .u8 (Int.ofNat 18), .i .u8 (Int.ofNat 12), .i .u8 (Int.ofNat 5), .i .u8 (Int.ofNat 63), .i .u8 (Int.ofNat 55), .i .u8 (Int.ofNat 48), .i .u8 (Int.ofNat 27), .i .u8 (Int.ofNat 60), .i .u8 (Int.ofNat 41), .i .u8 (Int.ofNat 37), .i .u8 (Int.ofNat 16), .i .u8 (Int.ofNat 46), .i .u8 (Int.ofNat 35), .i .u8 (Int.ofNat 44), .i .u8 (Int.ofNat 21), .i .u8 (Int.ofNat 52), .i .u8 (Int.ofNat 32), .i .u8 (Int.ofNat 23), .i .u8 (Int.ofNat 11), .i .u8 (Int.ofNat 54), .i .u8 (Int.ofNat 26), .i .u8 (Int.ofNat 40), .i .u8 (Int.ofNat 15), .i .u8 (Int.ofNat 34), .i .u8 (Int.ofNat 20), .i .u8 (Int.ofNat 31), .i .u8 (Int.ofNat 10), .i .u8 (Int.ofNat 25), .i .u8 (Int.ofNat 14), .i .u8 (Int.ofNat 19), .i .u8 (Int.ofNat 9), .i .u8 (Int.ofNat 13), .i .u8 (Int.ofNat 8), .i .u8 (Int.ofNat 7), .i .u8 (Int.ofNat 6)]
def ex58 (k : Nat) : Nat := bif Nat.beq k 176 then 1 else 0
theorem awake_run : tt (evCall Tryz.prog (fun _ => none) ex58 200 5 [] (hpG 7 [(1, tab64)])) = true := by kernel_rfl
end Go.Proofs.YtjadodiecjkmoaaGreatDoor
