/- More words for the walks.
Conditions: none. -/
import Derived.Test.YtiejegalokncgaaKit
namespace Go.Proofs.Ytiejegalokncgaa
open Go.RowKit Go.Proofs.YtiejegalokncgaaW.PrintWords Go.Proofs.YtiejegalokncgaaW.PrintLast Go.Proofs.YtiejegalokncgaaW.PrintMore
set_option linter.unusedVariables false
theorem grow_end {W w' : World} (h : ∃ x, w' = growBy W x) : Below W.heap.size W w' := by
  obtain ⟨x, rfl⟩ := h
  exact growBy_below W x
end Go.Proofs.Ytiejegalokncgaa
