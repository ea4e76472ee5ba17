/- More words for the walks.
Conditions: none. -/
import Derived.Test.YtemjpgmfignhnaaKit
namespace Go.Proofs.Ytemjpgmfignhnaa
open Go.RowKit Go.Proofs.YtemjpgmfignhnaaW.PrintWords Go.Proofs.YtemjpgmfignhnaaW.PrintLast Go.Proofs.YtemjpgmfignhnaaW.PrintMore
set_option linter.unusedVariables false
theorem grow_end {W w' : World} (h : ∃ x, w' = growBy W x) : Below W.heap.size W w' := by
  obtain ⟨x, rfl⟩ := h
  exact growBy_below W x
end Go.Proofs.Ytemjpgmfignhnaa
