/-
  ExprOrder of ch. 52, the card: the order of expressions is total and transitive: the law returns true for all expressions.
  Conditions: none beyond the row's own (the listed variables of Go's library are tied to the program's text).
-/
import Derived.Test.YtjiojpmoleilgaaGreatDoorOrder7
namespace Go.Proofs.YtjiojpmoleilgaaGreatDoor
set_option linter.unusedVariables false
set_option linter.unusedSimpArgs false
open Go Go.Proofs
set_option maxRecDepth 100000
theorem Jlu : Tryz.pinned.checked.prog.mainIs = some (true, "a0f636cf124148485fe999e4b9873fb3fbb3b30e6401b69381c109d5b3cba6e8".toList) := by kernel_rfl
theorem Jo0 : true = Tryz.prog.looks [] := by kernel_rfl
theorem Jpf : Tryz.prog.wantsStandIn 31 = false := by kernel_rfl
theorem wf6 : Rows.exprOrderRow.wfByText (OpenSpec.ofChange Rows.exprOrderSpec) = true := by kernel_rfl
theorem goes6 : false = Rows.exprOrderRow.goesBy Tryz.pinned.checked.prog := by kernel_rfl
theorem exprOrder_card : Rows.ExprOrderCardSaid :=
 Claim7.holds_tied_plain_at .later [] [.data, .data, .data, .data, .pinned] true (true, "a0f636cf124148485fe999e4b9873fb3fbb3b30e6401b69381c109d5b3cba6e8") true vy (fun _ h => by cases h) wf6 (fun _ h => by cases h) exprOrder_row_tie rfl ⟨rfl, rfl⟩ Jlu rfl
  (fun f fn hf hfn => by
   obtain rfl : f = 6 := Option.some.inj (Jn6.symm.trans hf) |>.symm
   obtain rfl : fn = Tryz.f6 := (Option.some.inj (Tryz.func6.symm.trans hfn)).symm
   exact ⟨Jo0, fun j t ht => by
    rw [Tryz.params6] at ht
    have hm : t ∈ [31, 31, 31] := by simpa using Array.mem_of_getElem? ht
    simp only [List.mem_cons, List.mem_nil_iff, or_false, or_self] at hm
    subst hm
    exact Jpf⟩)
  goes6
#print axioms exprOrder_card
end Go.Proofs.YtjiojpmoleilgaaGreatDoor
