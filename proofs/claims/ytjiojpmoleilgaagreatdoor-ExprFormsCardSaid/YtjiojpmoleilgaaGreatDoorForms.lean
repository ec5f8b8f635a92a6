/-
  ExprForms of ch. 52, the card: IsName, Check and Less agree with the reference for all expressions and texts: the law returns true for all arguments.
  Conditions: none beyond the row's own (the listed variables of Go's library are tied to the program's text).
-/
import Derived.Test.YtjiojpmoleilgaaGreatDoorForms7
set_option linter.unusedVariables false
set_option linter.unusedSimpArgs false
set_option maxRecDepth 100000
set_option maxHeartbeats 4000000
noncomputable section
namespace Go.Proofs.YtjiojpmoleilgaaGreatDoor
open Go Go.Proofs
theorem Jpa:Tryz.pinned.checked.prog.mainIs=some (true,"a0f636cf124148485fe999e4b9873fb3fbb3b30e6401b69381c109d5b3cba6e8".toList):=by kernel_rfl
theorem Jty:true=Tryz.prog.looks []:=by kernel_rfl
theorem Jwv:Tryz.prog.wantsStandIn 9=false:=by kernel_rfl
theorem Jj4:Tryz.prog.wantsStandIn 31=false:=by kernel_rfl
theorem wf5:Rows.exprFormsRow.wfByText (OpenSpec.ofChange Rows.exprFormsSpec)=true:=by kernel_rfl
theorem goes5:false=Rows.exprFormsRow.goesBy Tryz.pinned.checked.prog:=by kernel_rfl
theorem exprForms_card:Rows.ExprFormsCardSaid:=
 Claim7.holds_tied_plain_at .later [] [.data,.data,.data,.data,.pinned] true (true,"a0f636cf124148485fe999e4b9873fb3fbb3b30e6401b69381c109d5b3cba6e8") true vw (fun _ h=>by cases h) wf5 (fun _ h=>by cases h) exprForms_row_tie rfl ⟨rfl,rfl⟩ Jpa rfl
  (fun f fn hf hfn=>by
   obtain rfl:f=5:=Option.some.inj (Jq7.symm.trans hf) |>.symm;obtain rfl:fn=Tryz.f5:=(Option.some.inj (Tryz.func5.symm.trans hfn)).symm;exact⟨Jty,fun j t ht=>by
    rw [Tryz.params5] at ht;have hm:t ∈ [31,31,9]:=by simpa using Array.mem_of_getElem? ht
    simp only [List.mem_cons,List.mem_nil_iff,or_false] at hm
    rcases hm with rfl | rfl | rfl
    ·exact Jj4
    ·exact Jj4
    ·exact Jwv⟩)
  goes5
#print axioms exprForms_card
end Go.Proofs.YtjiojpmoleilgaaGreatDoor
