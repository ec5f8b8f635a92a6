/-
  ExprNames of ch. 52, the card: Names and Substitute agree with the reference for all expressions and names: the law returns true for all arguments.
  Conditions: none beyond the row's own (the listed variables of Go's library are tied to the program's text).
-/
import Derived.Test.YtjiojpmoleilgaaGreatDoorNames7
set_option linter.unusedVariables false
set_option linter.unusedSimpArgs false
set_option maxRecDepth 100000
set_option maxHeartbeats 4000000
noncomputable section
namespace Go.Proofs.YtjiojpmoleilgaaGreatDoor
open Go Go.Proofs
theorem Jog:Tryz.pinned.checked.prog.mainIs=some (true,"a0f636cf124148485fe999e4b9873fb3fbb3b30e6401b69381c109d5b3cba6e8".toList):=by kernel_rfl
theorem Jv8:true=Tryz.prog.looks []:=by kernel_rfl
theorem Jx4:Tryz.prog.wantsStandIn 9=false:=by kernel_rfl
theorem Jim:Tryz.prog.wantsStandIn 31=false:=by kernel_rfl
theorem wf7:Rows.exprNamesRow.wfByText (OpenSpec.ofChange Rows.exprNamesSpec)=true:=by kernel_rfl
theorem goes7:false=Rows.exprNamesRow.goesBy Tryz.pinned.checked.prog:=by kernel_rfl
theorem exprNames_card:Rows.ExprNamesCardSaid:=
 Claim7.holds_tied_plain_at .later [] [.data,.data,.data,.data,.pinned] true (true,"a0f636cf124148485fe999e4b9873fb3fbb3b30e6401b69381c109d5b3cba6e8") true Jaa (fun _ h=>by cases h) wf7 (fun _ h=>by cases h) exprNames_row_tie rfl ⟨rfl,rfl⟩ Jog rfl
  (fun f fn hf hfn=>by
   obtain rfl:f=7:=Option.some.inj (Jp3.symm.trans hf) |>.symm;obtain rfl:fn=Tryz.f7:=(Option.some.inj (Tryz.func7.symm.trans hfn)).symm;exact⟨Jv8,fun j t ht=>by
    rw [Tryz.params7] at ht;have hm:t ∈ [31,31,9]:=by simpa using Array.mem_of_getElem? ht
    simp only [List.mem_cons,List.mem_nil_iff,or_false] at hm
    rcases hm with rfl | rfl | rfl
    ·exact Jim
    ·exact Jim
    ·exact Jx4⟩)
  goes7
#print axioms exprNames_card
end Go.Proofs.YtjiojpmoleilgaaGreatDoor
