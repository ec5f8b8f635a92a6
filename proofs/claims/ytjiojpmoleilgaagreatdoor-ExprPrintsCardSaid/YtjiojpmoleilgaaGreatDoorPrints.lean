/-
  ExprPrints of ch. 52, the card: ExprPrints: the law returns true for all arguments.
  Conditions: none beyond the row's own (the listed variables of Go's library are tied to the program's text).
-/
import Derived.Test.YtjiojpmoleilgaaGreatDoorPrints7
set_option linter.unusedVariables false
set_option linter.unusedSimpArgs false
set_option maxRecDepth 100000
set_option maxHeartbeats 4000000
noncomputable section
namespace Go.Proofs.YtjiojpmoleilgaaGreatDoor
open Go Go.Proofs
theorem Jng:Tryz.pinned.checked.prog.mainIs=some (true,"a0f636cf124148485fe999e4b9873fb3fbb3b30e6401b69381c109d5b3cba6e8".toList):=by kernel_rfl
theorem Jus:true=Tryz.prog.looks []:=by kernel_rfl
theorem Ju9:Tryz.prog.wantsStandIn 31=false:=by kernel_rfl
theorem wf4:Rows.exprPrintsRow.wfByText (OpenSpec.ofChange Rows.exprPrintsSpec)=true:=by kernel_rfl
theorem goes4:false=Rows.exprPrintsRow.goesBy Tryz.pinned.checked.prog:=by kernel_rfl
theorem exprPrints_card:Rows.ExprPrintsCardSaid:=
 Claim7.holds_tied_plain_at .later [] [.data,.data,.data,.data,.pinned] true (true,"a0f636cf124148485fe999e4b9873fb3fbb3b30e6401b69381c109d5b3cba6e8") true Jae (fun _ h=>by cases h) wf4 (fun _ h=>by cases h) exprPrints_row_tie rfl ⟨rfl,rfl⟩ Jng rfl
  (fun f fn hf hfn=>by
   obtain rfl:f=4:=Option.some.inj (Jqh.symm.trans hf) |>.symm;obtain rfl:fn=Tryz.f4:=(Option.some.inj (Tryz.func4.symm.trans hfn)).symm;exact⟨Jus,fun j t ht=>by
    rw [Tryz.params4] at ht;have hm:t ∈ [31]:=by simpa using Array.mem_of_getElem? ht
    simp only [List.mem_cons,List.mem_nil_iff,or_false,or_self] at hm;subst hm;exact Ju9⟩)
  goes4
#print axioms exprPrints_card
end Go.Proofs.YtjiojpmoleilgaaGreatDoor
