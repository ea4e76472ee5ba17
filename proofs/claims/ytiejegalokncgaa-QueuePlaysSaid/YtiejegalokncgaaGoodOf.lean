/- What a number that reads as data is bound by.
Conditions: none. -/
import Derived.Test.YtiejegalokncgaaGd
namespace Go.Proofs.Ytiejegalokncgaa
open Go.RowKit Go.Proofs.YtiejegalokncgaaW.PrintWords Go.Proofs.YtiejegalokncgaaW.PrintLast Go.Proofs.YtiejegalokncgaaW.PrintMore
set_option linter.unusedVariables false
theorem wf_i64 {x : Int} (h : (Lit.int .i64 x).wf = true) : -9223372036854775808 ≤ x ∧ x ≤ 9223372036854775807 := by
  simp [Lit.wf, IntKind.min, IntKind.max, IntKind.signed, IntKind.bits] at h
  omega
theorem len_of {n b : Nat} (hb : 0 < b) (h : n * b ≤ 140737488351232) : n ≤ 140737488351232 := Nat.le_trans (Nat.le_mul_of_pos_right n hb) h
end Go.Proofs.Ytiejegalokncgaa
