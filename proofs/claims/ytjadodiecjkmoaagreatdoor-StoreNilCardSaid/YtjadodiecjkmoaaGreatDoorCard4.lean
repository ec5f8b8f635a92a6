/-
  StoreNil of ch. 58, the card: a nil store has no definitions, an empty log and no results, and refuses everything: the law returns true for every step.
  Conditions: none beyond the row's own (the listed variables of Go's library are tied to the program's text).
-/
import Derived.Test.YtjadodiecjkmoaaGreatDoorCards
import Derived.Test.YtjadodiecjkmoaaGreatDoorCard0
import Derived.Test.YtjadodiecjkmoaaGreatDoorKnot
import Derived.Test.YtjadodiecjkmoaaGreatDoorLast4
namespace Go.Proofs.YtjadodiecjkmoaaGreatDoor
set_option linter.unusedVariables false
set_option linter.unusedSimpArgs false
open Go Go.Proofs
set_option maxRecDepth 100000
theorem storeNil_card : Rows.StoreNilCardSaid :=
  Claim7.holds_tied_plain_at .later [] [.pinned, .data, .data, .data, .data] true (true, "505d8ba2257efdc46d200628764081f696aad24ee022449cd4356315e18417d3") true nilSaid (fun _ h => by cases h) wf4 (fun _ h => by cases h) storeNil_row_tie rfl ⟨rfl, rfl⟩ mainIs58 rfl
    (fun f fn hf hfn => by
      obtain rfl : f = 4 := Option.some.inj (named4f.symm.trans hf) |>.symm
      obtain rfl : fn = Tryz.f4 := (Option.some.inj (Tryz.func4.symm.trans hfn)).symm
      exact ⟨looks58, fun j t ht => by
        rw [Tryz.params4] at ht
        have hm : t ∈ [29] := by simpa using Array.mem_of_getElem? ht
        obtain rfl : t = 29 := by simpa using hm
        exact wants29⟩)
    goes4
#print axioms storeNil_card
end Go.Proofs.YtjadodiecjkmoaaGreatDoor
