/- How a function ends that hands back a plan out of a block of its own.
Conditions: none. -/
import Derived.Test.YtemjpgmfignhnaaOwnF
namespace Go.Proofs.Ytemjpgmfignhnaa
open Go.RowKit Go.Proofs.YtemjpgmfignhnaaW.PrintWords Go.Proofs.YtemjpgmfignhnaaW.PrintLast Go.Proofs.YtemjpgmfignhnaaW.PrintMore
set_option linter.unusedVariables false
theorem gen_ret {P : Program} {f : Func} {Q : Ending → World → Prop} {e : Exit} {a : Act} {W : World} (R : World → Prop) (hR : R W) (h : ∀ WF, R WF → bodyPost P f Q e a WF) : bodyPost P f Q e a W := h W hR
theorem blk_set7 {W : World} {g t : Nat} {c0 c1 c2 c3 c4 c5 c6 : Value} (h : W.heap[g]? = some (.cells #[c0, c1, c2, c3, c4, c5, c6] t (0, 0))) (u0 u1 u2 u3 u4 u5 u6 : Value) :
    (((((((W.setCell ⟨g, 0, none⟩ u0).setCell ⟨g, 1, none⟩ u1).setCell ⟨g, 2, none⟩ u2).setCell ⟨g, 3, none⟩ u3).setCell ⟨g, 4, none⟩ u4).setCell ⟨g, 5, none⟩ u5).setCell ⟨g, 6, none⟩ u6).heap[g]? = some (.cells #[u0, u1, u2, u3, u4, u5, u6] t (0, 0)) := by
  have h := blk_set (blk_set (blk_set (blk_set (blk_set (blk_set (blk_set h 0 u0) 1 u1) 2 u2) 3 u3) 4 u4) 5 u5) 6 u6
  simpa using h
theorem below_set7 {w W : World} {n g : Nat} (h : Below n w W) (hg : n ≤ g) (u0 u1 u2 u3 u4 u5 u6 : Value) :
    Below n w (((((((W.setCell ⟨g, 0, none⟩ u0).setCell ⟨g, 1, none⟩ u1).setCell ⟨g, 2, none⟩ u2).setCell ⟨g, 3, none⟩ u3).setCell ⟨g, 4, none⟩ u4).setCell ⟨g, 5, none⟩ u5).setCell ⟨g, 6, none⟩ u6) :=
  Below.setCell (Below.setCell (Below.setCell (Below.setCell (Below.setCell (Below.setCell (Below.setCell h hg u0) hg u1) hg u2) hg u3) hg u4) hg u5) hg u6
/-- What a row of one's own hangs on. -/
theorem OwnF.F {α : Type} {d : Kd α} {e lo base : Nat} {v : Value} {W : World} {xs : List α} (h : OwnF d e W lo base v xs) (hlo : lo ≤ base) : ∃ A c, v = .slice A xs.length c ∧ xs.length ≤ c ∧ Kd.F d W (fun k => lo ≤ k) A xs.length xs := by
  obtain ⟨A, c, e1, hl, _⟩ := h.reads
  refine ⟨A, c, e1, hl, fun W' hW => ?_⟩
  have h2 : OwnF d e W' lo base v xs := h.step (fun k hk _ hs => hW k hk hs) (fun k hk => hW k (Nat.le_trans hlo (h.base_le k hk)) (by
    obtain ⟨inner, ho, _⟩ := h
    exact own_lt ho k hk))
  obtain ⟨A2, c2, e2, _, hC⟩ := h2.reads
  rw [e1] at e2
  simp only [Value.slice.injEq] at e2
  obtain ⟨eA, _, _⟩ := e2
  rw [eA]
  exact hC
theorem OwnF.set7 {α : Type} {d : Kd α} {e lo base g : Nat} {W : World} {v : Value} {xs : List α} (h : OwnF d e W lo base v xs) (hg : g < lo) (hlo : lo ≤ base) (u0 u1 u2 u3 u4 u5 u6 : Value) :
    OwnF d e (((((((W.setCell ⟨g, 0, none⟩ u0).setCell ⟨g, 1, none⟩ u1).setCell ⟨g, 2, none⟩ u2).setCell ⟨g, 3, none⟩ u3).setCell ⟨g, 4, none⟩ u4).setCell ⟨g, 5, none⟩ u5).setCell ⟨g, 6, none⟩ u6) lo base v xs :=
  ((((((h.set_low hg hlo u0).set_low hg hlo u1).set_low hg hlo u2).set_low hg hlo u3).set_low hg hlo u4).set_low hg hlo u5).set_low hg hlo u6
end Go.Proofs.Ytemjpgmfignhnaa
