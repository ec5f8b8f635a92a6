/-
  ExprStable of ch. 52, the card: ExprStable: the law returns true for all arguments.
  Conditions: none beyond the row's own (the listed variables of Go's library are tied to the program's text).
-/
import Derived.Test.YtjiojpmoleilgaaGreatDoorSt7
set_option linter.unusedVariables false
set_option linter.unusedSimpArgs false
set_option maxRecDepth 100000
set_option maxHeartbeats 4000000
noncomputable section
namespace Go.Proofs.YtjiojpmoleilgaaGreatDoor
open Go Go.Proofs
theorem B0:Tryz.pinned.checked.prog.mainIs=some (true,"a0f636cf124148485fe999e4b9873fb3fbb3b30e6401b69381c109d5b3cba6e8".toList):=k
theorem Hl:true=Tryz.prog.looks []:=k
theorem KE:Tryz.prog.wantsStandIn 9=false:=k
theorem wf8:Rows.exprStableRow.wfByText (OpenSpec.ofChange Rows.exprStableSpec)=true:=k
theorem Oh:false=Rows.exprStableRow.goesBy Tryz.pinned.checked.prog:=k
theorem exprStable_card:Rows.ExprStableCardSaid:=
 Claim7.holds_tied_plain_at .later [] [.data,.data,.data,.data,.pinned] true (true,"a0f636cf124148485fe999e4b9873fb3fbb3b30e6401b69381c109d5b3cba6e8") true nw (fun _ h=>by cases h) wf8 (fun _ h=>by cases h) exprStable_row_tie rfl ⟨rfl,rfl⟩ B0 rfl
  (fun f fn hf hfn=>by
   obtain rfl:f=8:=Wn (Fm.symm.trans hf) |>.symm;obtain rfl:fn=Tryz.f8:=(Wn (Tryz.func8.symm.trans hfn)).symm;exact⟨Hl,fun _ t ht=>by
    rw[Tryz.params8] at ht;have hm:t∈[9]:=by simpa using Array.mem_of_getElem? ht
    simp only[UL,List.mem_nil_iff,or_false,or_self] at hm;subst hm;exact KE⟩)
  Oh
#print axioms exprStable_card
end Go.Proofs.YtjiojpmoleilgaaGreatDoor
