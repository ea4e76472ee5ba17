/- What is good about a value of each struct type: its numbers are of their kinds, its lists no longer than memory allows; and that what reads as data is good.
Conditions: none. -/
import Derived.Test.YtiejegalokncgaaBridge
import Derived.Test.YtiejegalokncgaaTy
namespace Go.Proofs.Ytiejegalokncgaa
open Go.RowKit Go.Proofs.YtiejegalokncgaaW.PrintWords Go.Proofs.Ytiejegalokncgaa.Bridge
set_option linter.unusedVariables false
def GAct (x : TAct) : Prop := (Lit.int .i64 x.Kind).wf = true ∧ (Lit.int .i64 x.Item).wf = true ∧ (Lit.int .i64 x.Key).wf = true
theorem datAct {H : Type} {enc : TypeId × Value → H} {W : World} : Rd enc Try.prog W 39 kAct GAct := rd_struct Try.underlying39 (by kernel_rfl) (fun x : TAct => (x.Kind, (x.Item, x.Key))) (fun p => ⟨p.1, p.2.1, p.2.2⟩) (fun _ => rfl) (rdF_cons rfl (by kernel_rfl) (rd_int Try.underlying3) (rdF_cons rfl (by kernel_rfl) (rd_int Try.underlying3) (rdF_one rfl (by kernel_rfl) (rd_int Try.underlying3))))
end Go.Proofs.Ytiejegalokncgaa
