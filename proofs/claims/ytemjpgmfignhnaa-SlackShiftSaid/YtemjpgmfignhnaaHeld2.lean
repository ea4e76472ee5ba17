/- Words for a region that draws its order and holds loads at any address, calls and blocks of its own: what stays as at its start.
Conditions: none. -/
import Derived.Test.YtemjpgmfignhnaaM0
import Derived.Deep.CutRange
namespace Go.Proofs.Ytemjpgmfignhnaa
open Go.RowKit Go.Proofs.YtemjpgmfignhnaaW.PrintWords Go.Proofs.YtemjpgmfignhnaaW.PrintLast Go.Proofs.YtemjpgmfignhnaaW.PrintMore
set_option linter.unusedVariables false
theorem hl_start (w1 : World) : Below w1.heap.size w1 w1.drew ∧ ∀ a : Addr, a.block < w1.heap.size → w1.drew.cell? a = w1.cell? a := ⟨below_drew (Below.refl _ _), fun _ _ => rfl⟩
theorem hl_of {w1 W : World} (h : Below w1.heap.size w1 W) : Below w1.heap.size w1 W ∧ ∀ a : Addr, a.block < w1.heap.size → W.cell? a = w1.cell? a := ⟨h, fun _ ha => h.cell ha⟩
/-! ### but for one cell and the row v that grows -/
end Go.Proofs.Ytemjpgmfignhnaa
