/-
  ExprParses of ch. 52, the card: ExprParses: the law returns true for all arguments.
  Conditions: none beyond the row's own (the listed variables of Go's library are tied to the program's text).
-/
import Derived.Test.YtjiojpmoleilgaaGreatDoorParses7
set_option linter.unusedVariables false
set_option linter.unusedSimpArgs false
set_option maxRecDepth 100000
set_option maxHeartbeats 4000000
noncomputable section
namespace Go.Proofs.YtjiojpmoleilgaaGreatDoor
open Go Go.Proofs
theorem Jl0:Tryz.pinned.checked.prog.mainIs=some (true,"a0f636cf124148485fe999e4b9873fb3fbb3b30e6401b69381c109d5b3cba6e8".toList):=by kernel_rfl
theorem Jqr:true=Tryz.prog.looks []:=by kernel_rfl
theorem Jwo:Tryz.prog.wantsStandIn 9=false:=by kernel_rfl
theorem wf3:Rows.exprParsesRow.wfByText (OpenSpec.ofChange Rows.exprParsesSpec)=true:=by kernel_rfl
theorem goes3:false=Rows.exprParsesRow.goesBy Tryz.pinned.checked.prog:=by kernel_rfl
theorem exprParses_card:Rows.ExprParsesCardSaid:=
 Claim7.holds_tied_plain_at .later [] [.data,.data,.data,.data,.pinned] true (true,"a0f636cf124148485fe999e4b9873fb3fbb3b30e6401b69381c109d5b3cba6e8") true ve (fun _ h=>by cases h) wf3 (fun _ h=>by cases h) exprParses_row_tie rfl ⟨rfl,rfl⟩ Jl0 rfl
  (fun f fn hf hfn=>by
   obtain rfl:f=3:=Option.some.inj (Joc.symm.trans hf) |>.symm;obtain rfl:fn=Tryz.f3:=(Option.some.inj (Tryz.func3.symm.trans hfn)).symm;exact⟨Jqr,fun j t ht=>by
    rw [Tryz.params3] at ht;have hm:t ∈ [9]:=by simpa using Array.mem_of_getElem? ht
    simp only [List.mem_cons,List.mem_nil_iff,or_false,or_self] at hm;subst hm;exact Jwo⟩)
  goes3
#print axioms exprParses_card
end Go.Proofs.YtjiojpmoleilgaaGreatDoor
