/- Words for a region that draws its order and holds loads at any address, calls and blocks of its own: what stays as at its start.
Conditions: none. -/
import Derived.Test.YtiejegalokncgaaHeld
import Derived.Deep.CutRange
namespace Go.Proofs.Ytiejegalokncgaa
open Go.RowKit Go.Proofs.YtiejegalokncgaaW.PrintWords Go.Proofs.YtiejegalokncgaaW.PrintLast Go.Proofs.YtiejegalokncgaaW.PrintMore
set_option linter.unusedVariables false
theorem hl_start (w1 : World) : Below w1.heap.size w1 w1.drew ∧ ∀ a : Addr, a.block < w1.heap.size → w1.drew.cell? a = w1.cell? a := ⟨below_drew (Below.refl _ _), fun _ _ => rfl⟩
theorem hl_of {w1 W : World} (h : Below w1.heap.size w1 W) : Below w1.heap.size w1 W ∧ ∀ a : Addr, a.block < w1.heap.size → W.cell? a = w1.cell? a := ⟨h, fun _ ha => h.cell ha⟩
theorem hl_step {w1 W W' : World} (hb : Below W.heap.size W W') (h : Below w1.heap.size w1 W ∧ ∀ a : Addr, a.block < w1.heap.size → W.cell? a = w1.cell? a) :
    Below w1.heap.size w1 W' ∧ ∀ a : Addr, a.block < w1.heap.size → W'.cell? a = w1.cell? a := hl_of (below_to h.1 hb)
theorem hl_alloc {w1 W : World} {o : Obj} (h : Below w1.heap.size w1 W ∧ ∀ a : Addr, a.block < w1.heap.size → W.cell? a = w1.cell? a) :
    Below w1.heap.size w1 (W.alloc o) ∧ ∀ a : Addr, a.block < w1.heap.size → (W.alloc o).cell? a = w1.cell? a := hl_of (below_alloc h.1 o)
theorem hl_set {w1 W : World} {a : Addr} {v : Value} (h : Below w1.heap.size w1 W ∧ ∀ a : Addr, a.block < w1.heap.size → W.cell? a = w1.cell? a) (ha : w1.heap.size ≤ a.block) :
    Below w1.heap.size w1 (W.setCell a v) ∧ ∀ b : Addr, b.block < w1.heap.size → (W.setCell a v).cell? b = w1.cell? b := hl_of (Below.setCell h.1 ha v)
/-! ### but for one cell and the row v that grows -/
theorem hx_start {A1 : Addr} {v : Value} (w1 : World) : ∀ a : Addr, a.block < w1.heap.size → some a.block ≠ v.ownBlock → a ≠ A1 → w1.drew.cell? a = w1.cell? a := fun _ _ _ _ => rfl
theorem hx_below {A1 : Addr} {v : Value} {w1 W : World} (h : Below w1.heap.size w1 W) : ∀ a : Addr, a.block < w1.heap.size → some a.block ≠ v.ownBlock → a ≠ A1 → W.cell? a = w1.cell? a := fun _ ha _ _ => h.cell ha
theorem hx_set {A1 : Addr} {v u : Value} {w1 W : World} (h : ∀ a : Addr, a.block < w1.heap.size → some a.block ≠ v.ownBlock → a ≠ A1 → W.cell? a = w1.cell? a) : ∀ a : Addr, a.block < w1.heap.size → some a.block ≠ v.ownBlock → a ≠ A1 → (W.setCell A1 u).cell? a = w1.cell? a :=
  fun a ha hb hc => (World.cell?_setCell_other W A1 a u (Ne.symm hc)).trans (h a ha hb hc)
theorem hx_grown {A1 : Addr} {v : Value} {w1 W W' : World} (h : Below w1.heap.size w1 W) (hg : W.grownBy W' v.ownBlock) : ∀ a : Addr, a.block < w1.heap.size → some a.block ≠ v.ownBlock → a ≠ A1 → W'.cell? a = w1.cell? a := by
  intro a ha hb hc
  have h1 := h.cell ha
  rw [← h1]
  unfold World.cell?
  rw [hg.block a.block (Nat.lt_of_lt_of_le ha h.size) (fun e => hb (by first | exact e.symm | exact e))]
end Go.Proofs.Ytiejegalokncgaa
