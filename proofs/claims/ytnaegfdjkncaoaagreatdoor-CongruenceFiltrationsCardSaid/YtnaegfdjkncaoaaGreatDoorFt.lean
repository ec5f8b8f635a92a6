/-
  CongruenceFiltrations of ch. 57, the card: the filtrations of two forms modulo a prime and of their product: the law returns true for all arguments.
  Conditions: none beyond the row's own (the listed variables of Go's library are tied to the program's text).
-/
import Derived.Test.YtnaegfdjkncaoaaGreatDoorFt26
set_option linter.unusedVariables false
set_option linter.unusedSimpArgs false
set_option maxRecDepth 100000
set_option maxHeartbeats 4000000
noncomputable section
namespace Go.Proofs.YtnaegfdjkncaoaaGreatDoor
open Go Go.Proofs
theorem congruenceFiltrations_card:Rows.CongruenceFiltrationsCardSaid:=
 Claim7.holds_tied_plain_at .later [] [.data] true (true,"5fcc844b82098f945fa62d9bc7188e387a6b58164e7eda8e73ebf7aaea2a24ae") false FP (fun _ h=>by cases h) wf3 (fun _ h=>by cases h) congruenceFiltrations_row_tie rfl ⟨rfl,rfl⟩ wh rfl
  (fun f fn hf hfn=>by
   obtain rfl:f=3:=Jaj (rZ.symm.trans hf) |>.symm;obtain rfl:fn=Tryz.f3:=(Jaj (Tryz.func3.symm.trans hfn)).symm;exact⟨E2,fun j t ht=>by
    rw[Tryz.params3] at ht;have hm:t∈[22,23,3]:=by simpa using Array.mem_of_getElem? ht
    simp only[XF,List.not_mem_nil,or_false] at hm;rcases hm with rfl|rfl|rfl
    ·exact El
    ·exact Fs
    ·exact JW⟩)
  Nx
#print axioms congruenceFiltrations_card
end Go.Proofs.YtnaegfdjkncaoaaGreatDoor
