/-
  DERIVED. GIVEN WITH THE SEED: THE CARDS: each row of YtoipokalbjjghaaGreatDoorRows.lean that lists a variable, with what it lists TIED to the program's text (the seventh form; the later family's looks); each row that meets fmt, with fmt's text TOLD by the authors' own Lean function (tested against real Go, not proved from fmt's source: count such statements apart). THE CARD IS WHAT COUNTS. Prove the row's statement (the work); the ties are given (YtoipokalbjjghaaGreatDoorTie.lean); close each card by the builder's one call (the guide's Derived/Test/ToyasCard.lean, 'card_holds'). Laid BY PROGRAM, IN A SANDBOX (cutbox-door.mjs). By AI agents, Wed Nov 11 2026. No macro, syntax, notation, axiom, sorry.
-/
import Derived.Test.YtoipokalbjjghaaGreatDoorRows
import GoSem.ClaimSeven
namespace Go.Proofs.YtoipokalbjjghaaGreatDoor
namespace Rows

/-- THE TIED CARD OF 'halfplanelaw57.CongruenceStaudt'. -/
def congruenceStaudtCard : Claim7 := { stood := { row := congruenceStaudtRow, standIns := [], harness := (true, "3c18bf39011f60e217c27f2cfa487464738a3a234c1b45f4c6c5760fe05adaea"), looks := false }, kinds := [], alts := [], laidByText := true, laidKinds := [.data], laidTests := true, laidLooks := .later }
def CongruenceStaudtCardSaid : Prop := Claim7.holds Tryz.pinned (.plain (OpenSpec.ofChange congruenceStaudtSpec)) congruenceStaudtCard

/-- THE SECOND FORM's CARD OF 'halfplanelaw57.CongruenceStaudt'. -/
def congruenceStaudtUptoCard : Claim7 := { stood := { row := congruenceStaudtUptoRow, standIns := [], harness := (true, "3c18bf39011f60e217c27f2cfa487464738a3a234c1b45f4c6c5760fe05adaea"), looks := false }, kinds := [], alts := [], laidByText := true, laidKinds := [.data], laidTests := true, laidLooks := .later }
def CongruenceStaudtUptoCardSaid : Prop := Claim7.holds Tryz.pinned (.plain (OpenSpec.upto congruenceStaudtSpec)) congruenceStaudtUptoCard
end Rows
end Go.Proofs.YtoipokalbjjghaaGreatDoor
