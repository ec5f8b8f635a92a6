/-
  CongruenceStaudt of ch. 57, the card: the Eisenstein series of weight p - 1 is congruent to 1 modulo the prime p, from 5 to 41: the law returns true for every number.
  Conditions: none beyond the row's own (the listed variables of Go's library are tied to the program's text).
-/
import Derived.Test.YtoipokalbjjghaaGreatDoorStaudt23
import Derived.Test.YtoipokalbjjghaaGreatDoorCards
import Derived.Test.YtoipokalbjjghaaGreatDoorTie
set_option linter.unusedVariables false
set_option linter.unusedSimpArgs false
namespace Go.Proofs.YtoipokalbjjghaaGreatDoor
set_option linter.unusedVariables false
set_option linter.unusedSimpArgs false
open Go Go.Proofs
set_option maxRecDepth 100000
theorem congruenceStaudt_card : Rows.CongruenceStaudtCardSaid :=
  Claim7.holds_tied_plain_at .later [] [.data] true (true, "3c18bf39011f60e217c27f2cfa487464738a3a234c1b45f4c6c5760fe05adaea") false staudtSaid (fun _ h => by cases h) wf3 (fun _ h => by cases h) congruenceStaudt_row_tie rfl ⟨rfl, rfl⟩ mainIs57 rfl
    (fun f fn hf hfn => by
      obtain rfl : f = 3 := Option.some.inj (named3f.symm.trans hf) |>.symm
      obtain rfl : fn = Tryz.f3 := (Option.some.inj (Tryz.func3.symm.trans hfn)).symm
      exact ⟨looks57, fun j t ht => by
        rw [Tryz.params3] at ht
        have hm : t ∈ [3] := by simpa using Array.mem_of_getElem? ht
        obtain rfl : t = 3 := by simpa using hm
        exact wants3⟩)
    goes3
#print axioms congruenceStaudt_card
end Go.Proofs.YtoipokalbjjghaaGreatDoor
