/-
  Frames taken anew: what is known of some slots, and nothing else.
-/
import Derived.Test.YtjadodiecjkmoaaGreatDoorCoreG
namespace Go.Wf
set_option linter.unusedVariables false
set_option linter.unusedSimpArgs false
open Go Go.RowKit
def reb (vals : List (Nat × Value)) (f : Fr) : Fr := fun t => match vals.lookup t with
  | some v => v
  | none => f t
theorem reb_of {f : Fr} (vals : List (Nat × Value)) (hv : ∀ p ∈ vals, f p.1 = p.2) : ∃ f', f = reb vals f' := by
  refine ⟨f, ?_⟩
  funext t
  unfold reb
  split
  · rename_i v hl
    exact hv (t, v) (lookup_mem _ _ _ hl)
  · rfl
theorem W.cutS {fc : Fence} {P : Program} {n : Nat} {D : List Deferred} {Q : Post} {f : Fr} {w : World} {a b c : Code} (M : Fr → World → Prop) (h : W fc P a n D (ThenQ (W fc P b n D (ThenQ M Q)) (ThenQ M Q)) f w) (k : ∀ f w, M f w → W fc P c n D Q f w) :
    W fc P (Code.seq a (Code.seq b c)) n D Q f w := by
  refine W.seq (W.mono h ?_)
  intro e f w q
  cases e with
  | normal => exact W.seq (W.cut M (W.mono q fun e f w q => by cases e <;> exact q) k)
  | exit id => exact q
  | goto l => exact q
  | ret => exact q
  | panic c => exact q
  | outgrown => exact q
end Go.Wf
