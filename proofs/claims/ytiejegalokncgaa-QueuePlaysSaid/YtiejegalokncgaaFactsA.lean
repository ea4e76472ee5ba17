/- Facts about the whole program, each asked of the kernel once.
Conditions: none. -/
import Derived.Test.YtiejegalokncgaaRows
import Derived.Test.YtiejegalokncgaaChecked
import Derived.WalkKit
import Derived.ProofKit
import Derived.KernelRfl
import Derived.JoinedOf
namespace Go.Proofs.Ytiejegalokncgaa.FactsA
theorem and_mk {a b : Bool} (h : a = true) (k : b = true) : (a && b) = true := by rw [h, k]; rfl
theorem p1 : laidOutB Try.pinned.checked.prog = true := by kernel_rfl
theorem p2 : mapsRowed Try.pinned.checked.prog = true := by kernel_rfl
theorem p3 : (Try.pinned.checked.prog.stops == []) = true := by kernel_rfl
theorem p4 : (Try.pinned.checked.prog.stopKnobs == []) = true := by kernel_rfl
theorem p5 : Try.pinned.checked.prog.plainKeys = Rows.queueNilRow.plainKeys := by kernel_rfl
theorem p6 : Try.pinned.checked.prog.stopsHeard = true := by kernel_rfl
theorem p7 : Try.pinned.checked.prog.mayEnter = true := by kernel_rfl
theorem p8 : Try.pinned.checked.prog.liftsFinal = Rows.queueNilRow.lifted := by kernel_rfl
theorem p9 : Try.pinned.checked.prog.make = some Rows.queueNilRow.make := by kernel_rfl
end Go.Proofs.Ytiejegalokncgaa.FactsA
