/- What a lawful problem's check tells, in plain words.
Conditions: none. -/
import Derived.Test.YtemjpgmfignhnaaC12j
import Derived.Test.YtemjpgmfignhnaaS12d
import Derived.Test.YtemjpgmfignhnaaL12
namespace Go.Proofs.Ytemjpgmfignhnaa
open Go.RowKit Go.Proofs.YtemjpgmfignhnaaW.PrintWords Go.Proofs.YtemjpgmfignhnaaW.PrintLast Go.Proofs.YtemjpgmfignhnaaW.PrintMore
set_option linter.unusedVariables false
set_option linter.unusedSimpArgs false
structure Law (p : TProblem) : Prop where
  d0 : 0 ≤ p.Dims
  d1 : p.Dims ≤ 3
  mt : matrixB p.Time p.Time.N = true
  md : matrixB p.Dist p.Time.N = true
  n0 : 1 ≤ p.Time.N
  n1 : p.Time.N ≤ 32
  nv : p.Vehicles.length ≤ 4
  nt : p.Jobs.length + p.Shipments.length ≤ 12
  gv : ∀ v ∈ p.Vehicles, vehicleB v p.Dims p.Time.N = true
  gj : ∀ j ∈ p.Jobs, jobB j p.Dims p.Time.N = true
  gs : ∀ s ∈ p.Shipments, shipB s p.Dims p.Time.N = true
theorem law_of {p : TProblem} (h : checkS p = 0) : Law p := by
  unfold checkS at h
  split at h
  · cases h
  · rename_i hb
    rw [Bool.not_eq_false] at hb
    simp only [Bool.and_eq_true, decide_eq_true_eq] at hb
    obtain ⟨h1, h2, h3, h4, h5⟩ := hb
    split at h
    · cases h
    · rename_i hc
      unfold vehsS at h
      split at h
      · rename_i hv
        unfold jobsS at h
        split at h
        · rename_i hj
          unfold shipsS at h
          split at h
          · rename_i hs
            rw [List.all_eq_true] at hv hj hs
            exact ⟨(upB_true h1).1, (upB_true h1).2, h4, h5, h2, h3, by omega, by omega, hv, hj, hs⟩
          · cases h
        · cases h
      · cases h
theorem matOk_of {m : TMatrix} {n : Int} (h : matrixB m n = true) (h0 : 1 ≤ n) (h1 : n ≤ 32) : MatOk m := by
  simp only [matrixB, Bool.and_eq_true, decide_eq_true_eq] at h
  obtain ⟨⟨a, b⟩, _⟩ := h
  exact ⟨by omega, by omega, by rw [a]; exact b⟩
theorem rdJob_mem (l : List TJob) (i : Int) (h0 : 0 ≤ i) (h1 : i < l.length) : rdJob l i ∈ l := by
  have : rdJob l i = l[i.toNat]'(by omega) := by simp [rdJob, List.getElem?_eq_getElem (show i.toNat < l.length by omega)]
  rw [this]
  exact List.getElem_mem _
theorem rdShip_mem (l : List TShipment) (i : Int) (h0 : 0 ≤ i) (h1 : i < l.length) : rdShipment l i ∈ l := by
  have : rdShipment l i = l[i.toNat]'(by omega) := by simp [rdShipment, List.getElem?_eq_getElem (show i.toNat < l.length by omega)]
  rw [this]
  exact List.getElem_mem _
theorem Law.prio {p : TProblem} (h : Law p) (t : TTask) : 0 ≤ prioS p t ∧ prioS p t ≤ 100 := by
  unfold prioS factsS
  split
  · rename_i ht
    split
    · rename_i hs
      unfold thereB at ht
      rw [if_pos hs] at ht
      have hr := upB_true ht
      have hb := h.gs _ (rdShip_mem p.Shipments t.Item hr.1 (by omega))
      simp only [shipB, Bool.and_eq_true] at hb
      exact upB_true hb.2.2.2.2
    · rename_i hs
      unfold thereB at ht
      rw [if_neg hs] at ht
      have hr := upB_true ht
      have hb := h.gj _ (rdJob_mem p.Jobs t.Item hr.1 (by omega))
      simp only [jobB, Bool.and_eq_true] at hb
      exact upB_true hb.2.2.2.2
  · exact ⟨by decide, by decide⟩
theorem check_line : checkS lineP = 0 := by decide +kernel
theorem tasks_line : tasksS lineP = [⟨false, 1⟩, ⟨false, 0⟩] := by rfl
theorem good_line : Good lineP := by
  refine ⟨⟨by decide, by decide, by decide, by decide, by decide⟩, by decide, fun v hv => ?_, fun j hj => ?_, fun s hs => ?_⟩
  · obtain rfl : v = lineV := by simpa [lineP] using hv
    exact ⟨by decide, by decide, fun b hb => by simp [lineV] at hb, by decide, by decide⟩
  · have : j = ⟨⟨1, 5, [⟨0, 1000000⟩]⟩, [], [], 0, 1⟩ ∨ j = ⟨⟨1, 0, [⟨0, 1000000⟩]⟩, [], [], 0, 5⟩ := by simpa [lineP] using hj
    rcases this with rfl | rfl <;> exact ⟨by decide, by decide, by decide, by decide, by decide⟩
  · simp [lineP] at hs
end Go.Proofs.Ytemjpgmfignhnaa
