/- The document's Ends, in plain words.
Conditions: none. -/
import Derived.Test.YtemjpgmfignhnaaP14
import Derived.Test.YtemjpgmfignhnaaHeld2
namespace Go.Proofs.Ytemjpgmfignhnaa
open Go.RowKit Go.Proofs.YtemjpgmfignhnaaW.PrintWords Go.Proofs.YtemjpgmfignhnaaW.PrintLast Go.Proofs.YtemjpgmfignhnaaW.PrintMore
set_option linter.unusedVariables false
set_option linter.unusedSimpArgs false
attribute [local go_sem] cell_growBy Option.some_or
theorem goR_at (p : TProblem) (v : TVehicle) (l : List TStep) (k : Nat) (h : k + 1 < l.length) (t : Int) : goR p v (l.drop k) t = if (stopE p v l[k].Visit).2 = true then
      (if (startS t (stopE p v l[k].Visit).1.Windows).2 = true then goR p v (l.drop (k + 1)) ((startS t (stopE p v l[k].Visit).1.Windows).1 + (stopE p v l[k].Visit).1.Service + cellS p.Time l[k].Place l[k + 1].Place) else none)
    else goR p v (l.drop (k + 1)) (t + cellS p.Time l[k].Place l[k + 1].Place) := by
  rw [List.drop_eq_getElem_cons (show k < l.length by omega), List.drop_eq_getElem_cons h, goR]
theorem goR_last (p : TProblem) (v : TVehicle) (l : List TStep) (k : Nat) (h : k + 1 = l.length) (t : Int) : goR p v (l.drop k) t = some t := by
  rw [List.drop_eq_getElem_cons (show k < l.length by omega), List.drop_of_length_le (by omega), goR]
/-- What Ends makes of where the steps lead. -/
def endOf (v : TVehicle) : Option Int → Int × Bool
  | none => (0, false)
  | some e => (e, decide (e ≤ v.Shift.To))
theorem stopE_ok {p : TProblem} (law : Law p) {v : TVehicle} (hv : VehOk p v) {x : TVisit} (h4 : x.Kind = 4 → 0 ≤ x.Item ∧ x.Item < v.Breaks.length) (hs : (stopE p v x).2 = true) : StopW (stopE p v x).1 := by
  unfold stopE at hs ⊢
  split
  · rename_i k4
    obtain ⟨i0, i1⟩ := h4 k4
    have e : rdBreak v.Breaks x.Item = v.Breaks[x.Item.toNat]'(by omega) := by simp [rdBreak, List.getElem?_eq_getElem (show x.Item.toNat < v.Breaks.length by omega)]
    rw [e]
    obtain ⟨a, b⟩ := hv.brk _ (List.getElem_mem _)
    exact ⟨winOk_of a, b⟩
  · rename_i k4
    rw [if_neg k4] at hs
    have := law.stopB hs
    simp only [stopB, Bool.and_eq_true] at this
    exact ⟨winOk_of this.2, upB_true this.1.2⟩
end Go.Proofs.Ytemjpgmfignhnaa
