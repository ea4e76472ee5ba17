/- The document's Ends, of a plan that was made.
Conditions: none. -/
import Derived.Test.YtemjpgmfignhnaaP14c
import Derived.Test.YtemjpgmfignhnaaR13h
namespace Go.Proofs.Ytemjpgmfignhnaa
open Go.RowKit Go.Proofs.YtemjpgmfignhnaaW.PrintWords Go.Proofs.YtemjpgmfignhnaaW.PrintLast Go.Proofs.YtemjpgmfignhnaaW.PrintMore
set_option linter.unusedVariables false
set_option linter.unusedSimpArgs false
section
variable (q : PV) (p : TProblem) (x : TPlan) (A : Option Addr) (c : Nat) (w : World)
theorem refEnds_x (i : Nat) (t : Int) (hi : i < x.Steps.length) (ht0 : -2000000000 ≤ t) (ht1 : t ≤ 2000000000) (hlp : Good p) (law : Law p) (hq : q.Ok p w) (hr : Kd.C kStep w A x.Steps.length x.Steps) (hv0 : 0 ≤ x.Vehicle) (hv1 : x.Vehicle < (p.Vehicles.length : Int)) (h : MadeX p (rdVehicle p.Vehicles x.Vehicle) x) :
    Calls Try.prog 65 #[q.val p, planV x A c, .int .i64 i, .int .i64 t] w
      fun e w' => e = .returned (.tuple #[.int .i64 (endOf (rdVehicle p.Vehicles x.Vehicle) (goR p (rdVehicle p.Vehicles x.Vehicle) (x.Steps.drop i) t)).1, .bool (endOf (rdVehicle p.Vehicles x.Vehicle) (goR p (rdVehicle p.Vehicles x.Vehicle) (x.Steps.drop i) t)).2]) ∧ Below w.heap.size w w' :=
  refEnds_any' q p x.Steps x.Vehicle x.Time x.Dist x.Wait x.Service x.Cost A c i t w hlp law hq hr hv0 hv1 hi (Nat.le_trans h.len (by decide)) h.brk ht0 ht1
end
end Go.Proofs.Ytemjpgmfignhnaa
