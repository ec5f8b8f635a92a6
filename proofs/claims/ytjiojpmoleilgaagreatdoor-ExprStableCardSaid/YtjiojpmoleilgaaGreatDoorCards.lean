/-
  DERIVED. GIVEN WITH THE SEED: THE CARDS: each row of YtjiojpmoleilgaaGreatDoorRows.lean that lists a variable, with what it lists TIED to the program's text (the seventh form; the later family's looks); each row that meets fmt, with fmt's text TOLD by the authors' own Lean function (tested against real Go, not proved from fmt's source: count such statements apart). THE CARD IS WHAT COUNTS. Prove the row's statement (the work); the ties are given (YtjiojpmoleilgaaGreatDoorTie.lean); close each card by the builder's one call (the guide's Derived/Test/ToyasCard.lean, 'card_holds'). Laid BY PROGRAM, IN A SANDBOX (cutbox-door.mjs). By AI agents, Wed Nov 11 2026. No macro, syntax, notation, axiom, sorry.
-/
import Derived.Test.YtjiojpmoleilgaaGreatDoorRows
import GoSem.ClaimSeven
namespace Go.Proofs.YtjiojpmoleilgaaGreatDoor
namespace Rows

/-- THE TIED CARD OF 'halfplanelaw52.ExprParses'. -/
def exprParsesCard : Claim7 := { stood := { row := exprParsesRow, standIns := [], harness := (true, "a0f636cf124148485fe999e4b9873fb3fbb3b30e6401b69381c109d5b3cba6e8"), looks := true }, kinds := [], alts := [], laidByText := true, laidKinds := [.data, .data, .data, .data, .pinned], laidTests := true, laidLooks := .later }
def ExprParsesCardSaid : Prop := Claim7.holds Tryz.pinned (.plain (OpenSpec.ofChange exprParsesSpec)) exprParsesCard

/-- THE TIED CARD OF 'halfplanelaw52.ExprPrints'. -/
def exprPrintsCard : Claim7 := { stood := { row := exprPrintsRow, standIns := [], harness := (true, "a0f636cf124148485fe999e4b9873fb3fbb3b30e6401b69381c109d5b3cba6e8"), looks := true }, kinds := [], alts := [], laidByText := true, laidKinds := [.data, .data, .data, .data, .pinned], laidTests := true, laidLooks := .later }
def ExprPrintsCardSaid : Prop := Claim7.holds Tryz.pinned (.plain (OpenSpec.ofChange exprPrintsSpec)) exprPrintsCard

/-- THE TIED CARD OF 'halfplanelaw52.ExprForms'. -/
def exprFormsCard : Claim7 := { stood := { row := exprFormsRow, standIns := [], harness := (true, "a0f636cf124148485fe999e4b9873fb3fbb3b30e6401b69381c109d5b3cba6e8"), looks := true }, kinds := [], alts := [], laidByText := true, laidKinds := [.data, .data, .data, .data, .pinned], laidTests := true, laidLooks := .later }
def ExprFormsCardSaid : Prop := Claim7.holds Tryz.pinned (.plain (OpenSpec.ofChange exprFormsSpec)) exprFormsCard

/-- THE TIED CARD OF 'halfplanelaw52.ExprOrder'. -/
def exprOrderCard : Claim7 := { stood := { row := exprOrderRow, standIns := [], harness := (true, "a0f636cf124148485fe999e4b9873fb3fbb3b30e6401b69381c109d5b3cba6e8"), looks := true }, kinds := [], alts := [], laidByText := true, laidKinds := [.data, .data, .data, .data, .pinned], laidTests := true, laidLooks := .later }
def ExprOrderCardSaid : Prop := Claim7.holds Tryz.pinned (.plain (OpenSpec.ofChange exprOrderSpec)) exprOrderCard

/-- THE TIED CARD OF 'halfplanelaw52.ExprNames'. -/
def exprNamesCard : Claim7 := { stood := { row := exprNamesRow, standIns := [], harness := (true, "a0f636cf124148485fe999e4b9873fb3fbb3b30e6401b69381c109d5b3cba6e8"), looks := true }, kinds := [], alts := [], laidByText := true, laidKinds := [.data, .data, .data, .data, .pinned], laidTests := true, laidLooks := .later }
def ExprNamesCardSaid : Prop := Claim7.holds Tryz.pinned (.plain (OpenSpec.ofChange exprNamesSpec)) exprNamesCard

/-- THE TIED CARD OF 'halfplanelaw52.ExprStable'. -/
def exprStableCard : Claim7 := { stood := { row := exprStableRow, standIns := [], harness := (true, "a0f636cf124148485fe999e4b9873fb3fbb3b30e6401b69381c109d5b3cba6e8"), looks := true }, kinds := [], alts := [], laidByText := true, laidKinds := [.data, .data, .data, .data, .pinned], laidTests := true, laidLooks := .later }
def ExprStableCardSaid : Prop := Claim7.holds Tryz.pinned (.plain (OpenSpec.ofChange exprStableSpec)) exprStableCard

/-- THE SECOND FORM's CARD OF 'halfplanelaw52.ExprParses'. -/
def exprParsesUptoCard : Claim7 := { stood := { row := exprParsesUptoRow, standIns := [], harness := (true, "a0f636cf124148485fe999e4b9873fb3fbb3b30e6401b69381c109d5b3cba6e8"), looks := true }, kinds := [], alts := [], laidByText := true, laidKinds := [.data, .data, .data, .data, .pinned], laidTests := true, laidLooks := .later }
def ExprParsesUptoCardSaid : Prop := Claim7.holds Tryz.pinned (.plain (OpenSpec.upto exprParsesSpec)) exprParsesUptoCard

/-- THE SECOND FORM's CARD OF 'halfplanelaw52.ExprPrints'. -/
def exprPrintsUptoCard : Claim7 := { stood := { row := exprPrintsUptoRow, standIns := [], harness := (true, "a0f636cf124148485fe999e4b9873fb3fbb3b30e6401b69381c109d5b3cba6e8"), looks := true }, kinds := [], alts := [], laidByText := true, laidKinds := [.data, .data, .data, .data, .pinned], laidTests := true, laidLooks := .later }
def ExprPrintsUptoCardSaid : Prop := Claim7.holds Tryz.pinned (.plain (OpenSpec.upto exprPrintsSpec)) exprPrintsUptoCard

/-- THE SECOND FORM's CARD OF 'halfplanelaw52.ExprForms'. -/
def exprFormsUptoCard : Claim7 := { stood := { row := exprFormsUptoRow, standIns := [], harness := (true, "a0f636cf124148485fe999e4b9873fb3fbb3b30e6401b69381c109d5b3cba6e8"), looks := true }, kinds := [], alts := [], laidByText := true, laidKinds := [.data, .data, .data, .data, .pinned], laidTests := true, laidLooks := .later }
def ExprFormsUptoCardSaid : Prop := Claim7.holds Tryz.pinned (.plain (OpenSpec.upto exprFormsSpec)) exprFormsUptoCard

/-- THE SECOND FORM's CARD OF 'halfplanelaw52.ExprOrder'. -/
def exprOrderUptoCard : Claim7 := { stood := { row := exprOrderUptoRow, standIns := [], harness := (true, "a0f636cf124148485fe999e4b9873fb3fbb3b30e6401b69381c109d5b3cba6e8"), looks := true }, kinds := [], alts := [], laidByText := true, laidKinds := [.data, .data, .data, .data, .pinned], laidTests := true, laidLooks := .later }
def ExprOrderUptoCardSaid : Prop := Claim7.holds Tryz.pinned (.plain (OpenSpec.upto exprOrderSpec)) exprOrderUptoCard

/-- THE SECOND FORM's CARD OF 'halfplanelaw52.ExprNames'. -/
def exprNamesUptoCard : Claim7 := { stood := { row := exprNamesUptoRow, standIns := [], harness := (true, "a0f636cf124148485fe999e4b9873fb3fbb3b30e6401b69381c109d5b3cba6e8"), looks := true }, kinds := [], alts := [], laidByText := true, laidKinds := [.data, .data, .data, .data, .pinned], laidTests := true, laidLooks := .later }
def ExprNamesUptoCardSaid : Prop := Claim7.holds Tryz.pinned (.plain (OpenSpec.upto exprNamesSpec)) exprNamesUptoCard

/-- THE SECOND FORM's CARD OF 'halfplanelaw52.ExprStable'. -/
def exprStableUptoCard : Claim7 := { stood := { row := exprStableUptoRow, standIns := [], harness := (true, "a0f636cf124148485fe999e4b9873fb3fbb3b30e6401b69381c109d5b3cba6e8"), looks := true }, kinds := [], alts := [], laidByText := true, laidKinds := [.data, .data, .data, .data, .pinned], laidTests := true, laidLooks := .later }
def ExprStableUptoCardSaid : Prop := Claim7.holds Tryz.pinned (.plain (OpenSpec.upto exprStableSpec)) exprStableUptoCard
end Rows
end Go.Proofs.YtjiojpmoleilgaaGreatDoor
