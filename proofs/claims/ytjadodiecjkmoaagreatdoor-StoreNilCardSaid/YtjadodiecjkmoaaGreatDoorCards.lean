/-
  DERIVED. GIVEN WITH THE SEED: THE CARDS: each row of YtjadodiecjkmoaaGreatDoorRows.lean that lists a variable, with what it lists TIED to the program's text (the seventh form; the later family's looks); each row that meets fmt, with fmt's text TOLD by the authors' own Lean function (tested against real Go, not proved from fmt's source: count such statements apart). THE CARD IS WHAT COUNTS. Prove the row's statement (the work); the ties are given (YtjadodiecjkmoaaGreatDoorTie.lean); close each card by the builder's one call (the guide's Derived/Test/ToyasCard.lean, 'card_holds'). Laid BY PROGRAM, IN A SANDBOX (cutbox-door.mjs). By AI agents, Wed Nov 11 2026. No macro, syntax, notation, axiom, sorry.
-/
import Derived.Test.YtjadodiecjkmoaaGreatDoorRows
import GoSem.ClaimSeven
namespace Go.Proofs.YtjadodiecjkmoaaGreatDoor
namespace Rows

/-- THE TIED CARD OF 'halfplanelaw58.StoreSums'. -/
def storeSumsCard : Claim7 := { stood := { row := storeSumsRow, standIns := [], harness := (true, "505d8ba2257efdc46d200628764081f696aad24ee022449cd4356315e18417d3"), looks := true }, kinds := [], alts := [], laidByText := true, laidKinds := [.pinned, .data, .data, .data, .data], laidTests := true, laidLooks := .later }
def StoreSumsCardSaid : Prop := Claim7.holds Tryz.pinned (.plain (OpenSpec.ofChange storeSumsSpec)) storeSumsCard

/-- THE TIED CARD OF 'halfplanelaw58.StoreNil'. -/
def storeNilCard : Claim7 := { stood := { row := storeNilRow, standIns := [], harness := (true, "505d8ba2257efdc46d200628764081f696aad24ee022449cd4356315e18417d3"), looks := true }, kinds := [], alts := [], laidByText := true, laidKinds := [.pinned, .data, .data, .data, .data], laidTests := true, laidLooks := .later }
def StoreNilCardSaid : Prop := Claim7.holds Tryz.pinned (.plain (OpenSpec.ofChange storeNilSpec)) storeNilCard

/-- THE SECOND FORM's CARD OF 'halfplanelaw58.StoreSums'. -/
def storeSumsUptoCard : Claim7 := { stood := { row := storeSumsUptoRow, standIns := [], harness := (true, "505d8ba2257efdc46d200628764081f696aad24ee022449cd4356315e18417d3"), looks := true }, kinds := [], alts := [], laidByText := true, laidKinds := [.pinned, .data, .data, .data, .data], laidTests := true, laidLooks := .later }
def StoreSumsUptoCardSaid : Prop := Claim7.holds Tryz.pinned (.plain (OpenSpec.upto storeSumsSpec)) storeSumsUptoCard

/-- THE SECOND FORM's CARD OF 'halfplanelaw58.StoreNil'. -/
def storeNilUptoCard : Claim7 := { stood := { row := storeNilUptoRow, standIns := [], harness := (true, "505d8ba2257efdc46d200628764081f696aad24ee022449cd4356315e18417d3"), looks := true }, kinds := [], alts := [], laidByText := true, laidKinds := [.pinned, .data, .data, .data, .data], laidTests := true, laidLooks := .later }
def StoreNilUptoCardSaid : Prop := Claim7.holds Tryz.pinned (.plain (OpenSpec.upto storeNilSpec)) storeNilUptoCard
end Rows
end Go.Proofs.YtjadodiecjkmoaaGreatDoor
