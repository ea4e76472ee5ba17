/- The struct types of the arguments of HoursWider: what is good about a value (its numbers are of their kinds, its lists no longer than memory allows), and that what reads as data is good.
Conditions: none. -/
import Derived.Test.YtoinhkilgijilaaBridge
import Derived.Test.YtoinhkilgijilaaMHoursWiderx0
import Derived.KernelRfl
namespace Go.Proofs.Ytoinhkilgijilaa.MHoursWider
open Go.RowKit Go.Proofs.YtoinhkilgijilaaW.PrintWords Go.Proofs.Ytoinhkilgijilaa.Bridge
set_option linter.unusedVariables false
def G32 (x : S32) : Prop := (Lit.int .i64 x.f0).wf = true ∧ (Lit.int .i64 x.f1).wf = true
theorem rd32 {H : Type} {enc : TypeId × Value → H} {W : World} : Rd enc Try.prog W 32 k32 G32 := rd_struct Try.underlying32 (by kernel_rfl) (fun x : S32 => (x.f0, x.f1)) (fun p => ⟨p.1, p.2⟩) (fun _ => rfl) (rdF_cons rfl (by kernel_rfl) (rd_int Try.underlying3) (rdF_one rfl (by kernel_rfl) (rd_int Try.underlying3)))
end Go.Proofs.Ytoinhkilgijilaa.MHoursWider
