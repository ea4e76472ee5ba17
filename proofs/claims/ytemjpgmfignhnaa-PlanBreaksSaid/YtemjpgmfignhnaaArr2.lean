/- How an argument that is an array of two whole numbers is told.
Conditions: none. -/
import Derived.Test.YtemjpgmfignhnaaBridge
import Derived.WideShapes
namespace Go.Proofs.Ytemjpgmfignhnaa.Bridge
open Go.RowKit Go.Proofs.YtemjpgmfignhnaaW.PrintWords Go.Deep
set_option linter.unusedVariables false
set_option linter.unusedSimpArgs false
variable {H : Type} {enc : TypeId × Value → H} {P : Program} {W : World}
theorem open_two {base b0 : Nat} {sp : Nat → Bool} {held : Bool} {r : Reach} {t e : TypeId} {v : Value} {d : DataW H} {ps : List MemPlace} (ht : P.underlying t = some (.array 2 e)) (he : P.underlying e = some (.int .i64)) (hce : P.cellsOf e = 1) (hct : P.cellsOf t = 2)
  (hv : Value.okWide P W r b0 t v) (h : DataW.Trod enc P W base sp held t v d ps) : ∃ a b : Int, v = .agg #[.int .i64 a, .int .i64 b] := by
 simp only [Value.okWide, ht] at hv
 obtain ⟨cs, rfl, hsz, _⟩ := hv
 obtain ⟨fuel, hf⟩ := h
 obtain ⟨xs, m, rfl, _, hl, hxl, hel⟩ := DataW.trod_array ht hf
 rw [hct] at hsz
 obtain ⟨l, rfl⟩ : ∃ l : List Value, cs = l.toArray := ⟨cs.toList, by simp⟩
 match l, hsz with
 | [c0, c1], _ =>
  have h0 := hel 0 (by decide)
  have h1 := hel 1 (by decide)
  rw [hce, List.getElem?_eq_getElem (show 0 < xs.length by omega)] at h0
  rw [hce, List.getElem?_eq_getElem (show 1 < xs.length by omega)] at h1
  obtain ⟨a, ea, _, _⟩ := DataW.trod_int he h0
  obtain ⟨b, eb, _, _⟩ := DataW.trod_int he h1
  refine ⟨a, b, ?_⟩
  simp [Value.cells] at ea eb
  rw [ea, eb]
end Go.Proofs.Ytemjpgmfignhnaa.Bridge
