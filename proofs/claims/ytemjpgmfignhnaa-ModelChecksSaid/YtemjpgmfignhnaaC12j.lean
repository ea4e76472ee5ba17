/- What a lawful problem is.
Conditions: none. -/
import Derived.Test.YtemjpgmfignhnaaC12i
namespace Go.Proofs.Ytemjpgmfignhnaa
open Go.RowKit Go.Proofs.YtemjpgmfignhnaaW.PrintWords Go.Proofs.YtemjpgmfignhnaaW.PrintLast Go.Proofs.YtemjpgmfignhnaaW.PrintMore
set_option linter.unusedVariables false
set_option linter.unusedSimpArgs false
def jobB (j : TJob) (d n : Int) : Bool := stopB j.Stop n && (decide (amountsS j.Drop d = 0) && (decide (amountsS j.Pick d = 0) && (decide (j.Skills < 4611686018427387904) && upB j.Priority 100)))
def shipB (s : TShipment) (d n : Int) : Bool := stopB s.Pickup n && (stopB s.Delivery n && (decide (amountsS s.Amount d = 0) && (decide (s.Skills < 4611686018427387904) && upB s.Priority 100)))
def vehsS (l : List TVehicle) (d n : Int) (r : Int) : Int := if l.all (fun v => vehicleB v d n) then r else 2
def jobsS (l : List TJob) (d n : Int) (r : Int) : Int := if l.all (fun v => jobB v d n) then r else 2
def shipsS (l : List TShipment) (d n : Int) (r : Int) : Int := if l.all (fun v => shipB v d n) then r else 2
def checkS (p : TProblem) : Int :=
  if (upB p.Dims 3 && (decide (1 ≤ p.Time.N) && (decide (p.Time.N ≤ 32) && (matrixB p.Time p.Time.N && matrixB p.Dist p.Time.N)))) = false then 2
  else if p.Vehicles.length > 4 ∨ p.Jobs.length + p.Shipments.length > 12 then 27
  else vehsS p.Vehicles p.Dims p.Time.N (jobsS p.Jobs p.Dims p.Time.N (shipsS p.Shipments p.Dims p.Time.N 0))
/-- Inner lists are no longer than memory allows, numbers are of their kinds. -/
structure Good (p : TProblem) : Prop extends Lens p where
  nsum : p.Jobs.length + p.Shipments.length ≤ 4611686018427387904
  gv : ∀ v ∈ p.Vehicles, v.Cap.length ≤ 4611686018427387904 ∧ v.Breaks.length ≤ 4611686018427387904 ∧ BrLens v.Breaks ∧ 0 ≤ v.Skills ∧ v.Skills < 18446744073709551616
  gj : ∀ j ∈ p.Jobs, j.Stop.Windows.length ≤ 4611686018427387904 ∧ j.Drop.length ≤ 4611686018427387904 ∧ j.Pick.length ≤ 4611686018427387904 ∧ 0 ≤ j.Skills ∧ j.Skills < 18446744073709551616
  gs : ∀ s ∈ p.Shipments, s.Pickup.Windows.length ≤ 4611686018427387904 ∧ s.Delivery.Windows.length ≤ 4611686018427387904 ∧ s.Amount.length ≤ 4611686018427387904 ∧ 0 ≤ s.Skills ∧ s.Skills < 18446744073709551616
theorem vehsS_at {l : List TVehicle} {d n r : Int} {k : Nat} (h : k < l.length) : vehsS (l.drop k) d n r = if vehicleB l[k] d n then vehsS (l.drop (k + 1)) d n r else 2 := by
  unfold vehsS
  rw [List.drop_eq_getElem_cons h, List.all_cons]
  cases hb : vehicleB l[k] d n
  · rfl
  · rw [Bool.true_and]; rfl
theorem jobsS_at {l : List TJob} {d n r : Int} {k : Nat} (h : k < l.length) : jobsS (l.drop k) d n r = if jobB l[k] d n then jobsS (l.drop (k + 1)) d n r else 2 := by
  unfold jobsS
  rw [List.drop_eq_getElem_cons h, List.all_cons]
  cases hb : jobB l[k] d n
  · rfl
  · rw [Bool.true_and]; rfl
theorem shipsS_at {l : List TShipment} {d n r : Int} {k : Nat} (h : k < l.length) : shipsS (l.drop k) d n r = if shipB l[k] d n then shipsS (l.drop (k + 1)) d n r else 2 := by
  unfold shipsS
  rw [List.drop_eq_getElem_cons h, List.all_cons]
  cases hb : shipB l[k] d n
  · rfl
  · rw [Bool.true_and]; rfl
theorem vehsS_end {l : List TVehicle} {d n r : Int} {k : Nat} (h : l.length ≤ k) : vehsS (l.drop k) d n r = r := by rw [List.drop_of_length_le h]; rfl
theorem jobsS_end {l : List TJob} {d n r : Int} {k : Nat} (h : l.length ≤ k) : jobsS (l.drop k) d n r = r := by rw [List.drop_of_length_le h]; rfl
theorem shipsS_end {l : List TShipment} {d n r : Int} {k : Nat} (h : l.length ≤ k) : shipsS (l.drop k) d n r = r := by rw [List.drop_of_length_le h]; rfl
end Go.Proofs.Ytemjpgmfignhnaa
