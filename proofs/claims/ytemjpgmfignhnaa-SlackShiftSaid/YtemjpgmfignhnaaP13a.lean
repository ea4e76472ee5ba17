/- What is aboard, in plain words: each visit's part, and the sums.
Conditions: none. -/
import Derived.Test.YtemjpgmfignhnaaR13b
namespace Go.Proofs.Ytemjpgmfignhnaa
open Go.RowKit Go.Proofs.YtemjpgmfignhnaaW.PrintWords Go.Proofs.YtemjpgmfignhnaaW.PrintLast Go.Proofs.YtemjpgmfignhnaaW.PrintMore
set_option linter.unusedVariables false
set_option linter.unusedSimpArgs false
def sumS (f : Nat → Int) : Nat → Int
  | 0 => 0
  | n + 1 => sumS f n + f n
/-- What the i-th visit brings behind k visits, in place d. -/
def contribS (p : TProblem) (l : List TVisit) (k i d : Nat) : Int :=
  if (stopS p (rdVisit l i)).2 = true then
    (if (rdVisit l i).Kind = 1 then (if k ≤ i then rd (rdJob p.Jobs (rdVisit l i).Item).Drop d else rd (rdJob p.Jobs (rdVisit l i).Item).Pick d)
    else if i < k then (if (rdVisit l i).Kind = 2 then rd (rdShipment p.Shipments (rdVisit l i).Item).Amount d else - rd (rdShipment p.Shipments (rdVisit l i).Item).Amount d)
    else 0)
  else 0
/-- Behind i visits, and of the next one in the first dd places. -/
def nowAt (p : TProblem) (l : List TVisit) (k i dd : Nat) : List Int := (List.range p.Dims.toNat).map fun d => sumS (fun j => contribS p l k j d) (if d < dd then i + 1 else i)
def nowS (p : TProblem) (l : List TVisit) (k : Nat) : List Int := nowAt p l k l.length 0
def loadsS (p : TProblem) (l : List TVisit) : List (List Int) := (List.range (l.length + 1)).map (nowS p l)
theorem nowAt_length (p : TProblem) (l : List TVisit) (k i dd : Nat) : (nowAt p l k i dd).length = p.Dims.toNat := by simp [nowAt]
theorem nowAt_zero (p : TProblem) (l : List TVisit) (k : Nat) : nowAt p l k 0 0 = List.replicate p.Dims.toNat 0 := by
  refine List.ext_getElem (by simp [nowAt]) fun d h1 h2 => ?_
  simp [nowAt, sumS]
theorem nowAt_get (p : TProblem) (l : List TVisit) (k i dd d : Nat) (hd : d < p.Dims.toNat) : (nowAt p l k i dd)[d]'(by simpa [nowAt] using hd) = sumS (fun j => contribS p l k j d) (if d < dd then i + 1 else i) := by simp [nowAt]
theorem nowAt_next (p : TProblem) (l : List TVisit) (k i : Nat) : nowAt p l k i p.Dims.toNat = nowAt p l k (i + 1) 0 := by
  refine List.ext_getElem (by simp [nowAt]) fun d h1 h2 => ?_
  have hd : d < p.Dims.toNat := by simpa [nowAt] using h1
  rw [nowAt_get p l k i _ _ hd, nowAt_get p l k (i + 1) _ _ hd, if_pos hd, if_neg (by omega)]
theorem nowAt_set (p : TProblem) (l : List TVisit) (k i dd : Nat) (hd : dd < p.Dims.toNat) : (nowAt p l k i dd).set dd (sumS (fun j => contribS p l k j dd) i + contribS p l k i dd) = nowAt p l k i (dd + 1) := by
  refine List.ext_getElem (by simp [nowAt]) fun d h1 h2 => ?_
  have hd2 : d < p.Dims.toNat := by simpa [nowAt] using h2
  rw [List.getElem_set]
  by_cases e : dd = d
  · subst e
    rw [if_pos rfl, nowAt_get p l k i _ _ hd2, if_pos (by omega)]
    rfl
  · rw [if_neg e, nowAt_get p l k i _ _ hd2, nowAt_get p l k i _ _ hd2]
    by_cases h : d < dd
    · rw [if_pos h, if_pos (by omega)]
    · rw [if_neg h, if_neg (by omega)]
theorem nowAt_same (p : TProblem) (l : List TVisit) (k i dd : Nat) (hd : dd < p.Dims.toNat) (h0 : contribS p l k i dd = 0) : nowAt p l k i dd = nowAt p l k i (dd + 1) := by
  rw [← nowAt_set p l k i dd hd, h0, Int.add_zero]
  refine List.ext_getElem (by simp [nowAt]) fun d h1 h2 => ?_
  rw [List.getElem_set]
  by_cases e : dd = d
  · subst e
    rw [if_pos rfl, nowAt_get p l k i _ _ hd, if_neg (by omega)]
  · rw [if_neg e]
theorem nowAt_skip (p : TProblem) (l : List TVisit) (k i : Nat) (h0 : ∀ d, d < p.Dims.toNat → contribS p l k i d = 0) : nowAt p l k i 0 = nowAt p l k (i + 1) 0 := by
  refine List.ext_getElem (by simp [nowAt]) fun d h1 h2 => ?_
  have hd : d < p.Dims.toNat := by simpa [nowAt] using h1
  rw [nowAt_get p l k i _ _ hd, nowAt_get p l k (i + 1) _ _ hd, if_neg (by omega), if_neg (by omega)]
  show _ = sumS _ i + contribS p l k i d
  rw [h0 d hd, Int.add_zero]
theorem am_ok {l : List Int} {d : Int} (h : amountsS l d = 0) : (l.length : Int) = d ∧ ∀ x ∈ l, 0 ≤ x ∧ x ≤ 1000000 := by
  unfold amountsS at h
  split at h
  · rename_i hl
    split at h
    · rename_i ha
      refine ⟨hl, fun x hx => ?_⟩
      have := List.all_eq_true.1 ha x hx
      simpa using this
    · cases h
  · cases h
theorem am_rd {l : List Int} {d : Int} (h : amountsS l d = 0) (i : Nat) (hi : (i : Int) < d) : i < l.length ∧ 0 ≤ rd l i ∧ rd l i ≤ 1000000 := by
  obtain ⟨h1, h2⟩ := am_ok h
  have hl : i < l.length := by omega
  have e : rd l (i : Int) = l[i] := by simp [rd, List.getElem?_eq_getElem hl]
  rw [e]
  exact ⟨hl, h2 _ (List.getElem_mem _)⟩
theorem kind_of {p : TProblem} {v : TVisit} (h : (stopS p v).2 = true) : (v.Kind = 1 ∧ 0 ≤ v.Item ∧ v.Item < p.Jobs.length) ∨ ((v.Kind = 2 ∨ v.Kind = 3) ∧ 0 ≤ v.Item ∧ v.Item < p.Shipments.length) := by
  unfold stopS at h
  split at h
  · rename_i hb
    simp only [Bool.and_eq_true] at hb
    obtain ⟨ht, hth⟩ := hb
    by_cases h1 : v.Kind = 1
    · have e : taskOf v = (⟨false, v.Item⟩, true) := by simp [taskOf, h1]
      rw [e] at hth
      have := upB_true (show upB v.Item ((p.Jobs.length : Int) - 1) = true by simpa [thereB] using hth)
      exact .inl ⟨h1, this.1, by omega⟩
    · have hk : v.Kind = 2 ∨ v.Kind = 3 := by
        apply Classical.byContradiction
        intro hn
        rw [taskOf_none h1 (fun e => hn (.inl e)) (fun e => hn (.inr e))] at ht
        cases ht
      have e : taskOf v = (⟨true, v.Item⟩, true) := by
        unfold taskOf
        rw [if_neg h1, if_pos hk]
      rw [e] at hth
      have := upB_true (show upB v.Item ((p.Shipments.length : Int) - 1) = true by simpa [thereB] using hth)
      exact .inr ⟨hk, this.1, by omega⟩
  · cases h
theorem Law.job {p : TProblem} (h : Law p) (i : Int) (h0 : 0 ≤ i) (h1 : i < p.Jobs.length) : amountsS (rdJob p.Jobs i).Drop p.Dims = 0 ∧ amountsS (rdJob p.Jobs i).Pick p.Dims = 0 := by
  have hb := h.gj _ (rdJob_mem p.Jobs i h0 h1)
  simp only [jobB, Bool.and_eq_true, decide_eq_true_eq] at hb
  exact ⟨hb.2.1, hb.2.2.1⟩
theorem Law.ship {p : TProblem} (h : Law p) (i : Int) (h0 : 0 ≤ i) (h1 : i < p.Shipments.length) : amountsS (rdShipment p.Shipments i).Amount p.Dims = 0 := by
  have hb := h.gs _ (rdShip_mem p.Shipments i h0 h1)
  simp only [shipB, Bool.and_eq_true, decide_eq_true_eq] at hb
  exact hb.2.2.1
theorem contribS_le {p : TProblem} (h : Law p) (l : List TVisit) (k i d : Nat) (hd : (d : Int) < p.Dims) : -1000000 ≤ contribS p l k i d ∧ contribS p l k i d ≤ 1000000 := by
  unfold contribS
  split
  · rename_i hs
    rcases kind_of hs with ⟨k1, i0, i1⟩ | ⟨k2, i0, i1⟩
    · have hj := h.job _ i0 i1
      have a := am_rd hj.1 d hd
      have b := am_rd hj.2 d hd
      rw [if_pos k1]
      split <;> omega
    · have hj := am_rd (h.ship _ i0 i1) d hd
      rw [if_neg (by omega)]
      split
      · split <;> omega
      · omega
  · omega
theorem sumS_le {f : Nat → Int} (h : ∀ i, -1000000 ≤ f i ∧ f i ≤ 1000000) : ∀ n : Nat, -(1000000 * (n : Int)) ≤ sumS f n ∧ sumS f n ≤ 1000000 * (n : Int)
  | 0 => by simp [sumS]
  | n + 1 => by
    have := sumS_le h n
    have := h n
    unfold sumS
    omega
end Go.Proofs.Ytemjpgmfignhnaa
