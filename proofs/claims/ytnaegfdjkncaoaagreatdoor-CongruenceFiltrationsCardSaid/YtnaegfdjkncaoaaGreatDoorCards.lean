/-
  DERIVED. GIVEN WITH THE SEED: THE CARDS: each row of YtnaegfdjkncaoaaGreatDoorRows.lean that lists a variable, with what it lists TIED to the program's text (the seventh form; the later family's looks); each row that meets fmt, with fmt's text TOLD by the authors' own Lean function (tested against real Go, not proved from fmt's source: count such statements apart). THE CARD IS WHAT COUNTS. Prove the row's statement (the work); the ties are given (YtnaegfdjkncaoaaGreatDoorTie.lean); close each card by the builder's one call (the guide's Derived/Test/ToyasCard.lean, 'card_holds'). Laid BY PROGRAM, IN A SANDBOX (cutbox-door.mjs). By AI agents, Wed Nov 11 2026. No macro, syntax, notation, axiom, sorry.
-/
import Derived.Test.YtnaegfdjkncaoaaGreatDoorRows
import GoSem.ClaimSeven
namespace Go.Proofs.YtnaegfdjkncaoaaGreatDoor
namespace Rows

/-- THE TIED CARD OF 'halfplanelaw57.CongruenceFiltrations'. -/
def congruenceFiltrationsCard : Claim7 := { stood := { row := congruenceFiltrationsRow, standIns := [], harness := (true, "5fcc844b82098f945fa62d9bc7188e387a6b58164e7eda8e73ebf7aaea2a24ae"), looks := false }, kinds := [], alts := [], laidByText := true, laidKinds := [.data], laidTests := true, laidLooks := .later }
def CongruenceFiltrationsCardSaid : Prop := Claim7.holds Tryz.pinned (.plain (OpenSpec.ofChange congruenceFiltrationsSpec)) congruenceFiltrationsCard

/-- THE SECOND FORM's CARD OF 'halfplanelaw57.CongruenceFiltrations'. -/
def congruenceFiltrationsUptoCard : Claim7 := { stood := { row := congruenceFiltrationsUptoRow, standIns := [], harness := (true, "5fcc844b82098f945fa62d9bc7188e387a6b58164e7eda8e73ebf7aaea2a24ae"), looks := false }, kinds := [], alts := [], laidByText := true, laidKinds := [.data], laidTests := true, laidLooks := .later }
def CongruenceFiltrationsUptoCardSaid : Prop := Claim7.holds Tryz.pinned (.plain (OpenSpec.upto congruenceFiltrationsSpec)) congruenceFiltrationsUptoCard
end Rows
end Go.Proofs.YtnaegfdjkncaoaaGreatDoor
