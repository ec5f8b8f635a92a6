/- Part 1 of the texts for the claim. -/
import Derived.Test.YtoipokalbjjghaaGreatDoorRows
import Derived.SevenTiedAt
import Derived.KernelRfl
set_option linter.unusedVariables false
set_option linter.unusedSimpArgs false
namespace Go.Proofs.YtoipokalbjjghaaGreatDoor
set_option linter.unusedVariables false
set_option linter.unusedSimpArgs false
open Go Go.Proofs
set_option maxRecDepth 100000
theorem mainIs57 : Tryz.pinned.checked.prog.mainIs = some (true, "3c18bf39011f60e217c27f2cfa487464738a3a234c1b45f4c6c5760fe05adaea".toList) := by kernel_rfl
theorem looks57 : false = Tryz.prog.looks [] := by kernel_rfl
theorem wants3 : Tryz.prog.wantsStandIn 3 = false := by kernel_rfl
theorem wf3 : Rows.congruenceStaudtRow.wfByText (OpenSpec.ofChange Rows.congruenceStaudtSpec) = true := by kernel_rfl
theorem noGo57 : Tryz.prog.funcs.toList.any Func.goes = false := by kernel_rfl
theorem goes_of {P : Program} {c : OpenClaim} (h : P.funcs.toList.any Func.goes = false) (hs : c.start = .entering) : false = c.goesBy P := by
  have hall : ∀ (g : Nat), (P.funcs[g]?).any Func.goes = false := by
    intro g
    cases hg : P.funcs[g]? with
    | none => rfl
    | some fn =>
      rw [List.any_eq_false] at h
      have := h fn (Array.mem_toList_iff.2 (Array.mem_of_getElem? hg))
      simpa using this
  have hgo : ∀ f, P.goes f = false := by
    intro f
    unfold Program.goes
    rw [Bool.or_eq_false_iff]
    refine ⟨List.any_eq_false.2 fun g _ => by rw [hall g]; simp, ?_⟩
    rw [← Array.any_toList, h, Bool.and_false]
  unfold OpenClaim.goesBy Program.goesAt Program.goesFrom
  rw [hs, Bool.or_false]
  cases P.funcNamed c.func with
  | none => rfl
  | some f => exact (hgo f).symm
theorem goes3 : false = Rows.congruenceStaudtRow.goesBy Tryz.pinned.checked.prog := goes_of noGo57 rfl
end Go.Proofs.YtoipokalbjjghaaGreatDoor
