/-
  StoreSums of ch. 58, the card: Sum returns the checksum, and another one if one byte is changed: the law returns true for all bytes, places and changes.
  Conditions: none beyond the row's own (the listed variables of Go's library are tied to the program's text).
-/
import Derived.Test.YtjadodiecjkmoaaGreatDoorCards
import Derived.Test.YtjadodiecjkmoaaGreatDoorCard0
import Derived.Test.YtjadodiecjkmoaaGreatDoorKnot
import Derived.Test.YtjadodiecjkmoaaGreatDoorLast3
namespace Go.Proofs.YtjadodiecjkmoaaGreatDoor
set_option linter.unusedVariables false
set_option linter.unusedSimpArgs false
open Go Go.Proofs
set_option maxRecDepth 100000
theorem storeSums_card : Rows.StoreSumsCardSaid :=
  Claim7.holds_tied_plain_at .later [] [.pinned, .data, .data, .data, .data] true (true, "505d8ba2257efdc46d200628764081f696aad24ee022449cd4356315e18417d3") true sumsSaid (fun _ h => by cases h) wf3 (fun _ h => by cases h) storeSums_row_tie rfl ⟨rfl, rfl⟩ mainIs58 rfl
    (fun f fn hf hfn => by
      obtain rfl : f = 3 := Option.some.inj (named3f.symm.trans hf) |>.symm
      obtain rfl : fn = Tryz.f3 := (Option.some.inj (Tryz.func3.symm.trans hfn)).symm
      exact ⟨looks58, fun j t ht => by
        rw [Tryz.params3] at ht
        have hm : t ∈ [22, 3, 5] := by simpa using Array.mem_of_getElem? ht
        simp only [List.mem_cons, List.mem_nil_iff, or_false] at hm
        rcases hm with rfl | rfl | rfl
        · exact wants22
        · exact wants3
        · exact wants5⟩)
    goes3
#print axioms storeSums_card
end Go.Proofs.YtjadodiecjkmoaaGreatDoor
