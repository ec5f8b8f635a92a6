/-
  Closed facts that the cards of both rows ask.
-/
import Derived.Test.YtjadodiecjkmoaaGreatDoorRows
import Derived.SevenTiedAt
import Derived.KernelRfl
namespace Go.Proofs.YtjadodiecjkmoaaGreatDoor
set_option linter.unusedVariables false
set_option linter.unusedSimpArgs false
open Go Go.Proofs
set_option maxRecDepth 100000
theorem mainIs58 : Tryz.pinned.checked.prog.mainIs = some (true, "505d8ba2257efdc46d200628764081f696aad24ee022449cd4356315e18417d3".toList) := by kernel_rfl
theorem looks58 : true = Tryz.prog.looks [] := by kernel_rfl
theorem wants29 : Tryz.prog.wantsStandIn 29 = false := by kernel_rfl
theorem wants22 : Tryz.prog.wantsStandIn 22 = false := by kernel_rfl
theorem wants3 : Tryz.prog.wantsStandIn 3 = false := by kernel_rfl
theorem wants5 : Tryz.prog.wantsStandIn 5 = false := by kernel_rfl
theorem wf4 : Rows.storeNilRow.wfByText (OpenSpec.ofChange Rows.storeNilSpec) = true := by kernel_rfl
theorem wf3 : Rows.storeSumsRow.wfByText (OpenSpec.ofChange Rows.storeSumsSpec) = true := by kernel_rfl
theorem noGo58 : Tryz.prog.funcs.toList.any Func.goes = false := by kernel_rfl
theorem goes_of {P : Program} {c : OpenClaim} (h : P.funcs.toList.any Func.goes = false) (hs : c.start = .entering) : false = c.goesBy P := by
  have hall : ∀ (g : Nat), (P.funcs[g]?).any Func.goes = false := by
    intro g
    cases hg : P.funcs[g]? with
    | none => rfl
    | some fn =>
      rw [List.any_eq_false] at h
      have := h fn (Array.mem_toList_iff.2 (Array.mem_of_getElem? hg))
      simpa using this
  have hgo : ∀ f, P.goes f = false := by
    intro f
    unfold Program.goes
    rw [Bool.or_eq_false_iff]
    refine ⟨List.any_eq_false.2 fun g _ => by rw [hall g]; simp, ?_⟩
    rw [← Array.any_toList, h, Bool.and_false]
  unfold OpenClaim.goesBy Program.goesAt Program.goesFrom
  rw [hs, Bool.or_false]
  cases P.funcNamed c.func with
  | none => rfl
  | some f => exact (hgo f).symm
theorem goes4 : false = Rows.storeNilRow.goesBy Tryz.pinned.checked.prog := goes_of noGo58 rfl
theorem goes3 : false = Rows.storeSumsRow.goesBy Tryz.pinned.checked.prog := goes_of noGo58 rfl
end Go.Proofs.YtjadodiecjkmoaaGreatDoor
