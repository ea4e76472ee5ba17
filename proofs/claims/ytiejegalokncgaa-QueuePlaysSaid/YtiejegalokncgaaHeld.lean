/- Words for a region that draws its order, holds loads and calls that make memory: the world of its start, and what stays as there.
Conditions: none. -/
import Derived.Test.YtiejegalokncgaaKit2
import Derived.Deep.RegionHeld3
namespace Go.Proofs.Ytiejegalokncgaa
open Go.RowKit Go.Proofs.YtiejegalokncgaaW.PrintWords Go.Proofs.YtiejegalokncgaaW.PrintLast Go.Proofs.YtiejegalokncgaaW.PrintMore
set_option linter.unusedVariables false
theorem held_start (w1 : World) : Below w1.heap.size w1 w1.drew ∧ ∀ b o, b < w1.heap.size → w1.drew.cell? ⟨b, o, none⟩ = w1.cell? ⟨b, o, none⟩ := ⟨below_drew (Below.refl _ _), fun _ _ _ => rfl⟩
theorem held_step {w1 W W' : World} (hb : Below W.heap.size W W') (h : Below w1.heap.size w1 W ∧ ∀ b o, b < w1.heap.size → W.cell? ⟨b, o, none⟩ = w1.cell? ⟨b, o, none⟩) :
    Below w1.heap.size w1 W' ∧ ∀ b o, b < w1.heap.size → W'.cell? ⟨b, o, none⟩ = w1.cell? ⟨b, o, none⟩ :=
  ⟨below_to h.1 hb, fun b o hlt => (hb.cell (p := ⟨b, o, none⟩) (Nat.lt_of_lt_of_le hlt h.1.size)).trans (h.2 b o hlt)⟩
theorem gen_world {P : Program} {c : Code} {Q : Exit → Act → World → Prop} {a : Act} {W : World} (h : ∀ WS, (∀ b o, WS.cell? ⟨b, o, none⟩ = W.cell? ⟨b, o, none⟩) → WS.heap.size = W.heap.size → Aside0 (WS = W) → c.wp P Q a WS) : c.wp P Q a W := h W (fun _ _ => rfl) rfl ⟨rfl⟩
end Go.Proofs.Ytiejegalokncgaa
