/- How long the lists of a plan are, in plain words.
Conditions: a lawful problem. -/
import Derived.Test.YtemjpgmfignhnaaM13
namespace Go.Proofs.Ytemjpgmfignhnaa
open Go.RowKit Go.Proofs.YtemjpgmfignhnaaW.PrintWords Go.Proofs.YtemjpgmfignhnaaW.PrintLast Go.Proofs.YtemjpgmfignhnaaW.PrintMore
set_option linter.unusedVariables false
set_option linter.unusedSimpArgs false
theorem goS_lens (p : TProblem) (v : TVehicle) (ls : List (List Int)) (hls : ∀ y ∈ ls, y.length ≤ 3) : ∀ (l : List TVisit) (i : Nat) (s t : TS), (∀ x ∈ s.steps, x.Load.length ≤ 3) → goS p v ls l i s = some t → t.steps.length = s.steps.length + l.length ∧ ∀ x ∈ t.steps, x.Load.length ≤ 3
 | [], i, s, t, hs, h => by
  rw [goS, Option.some.injEq] at h
  subst h
  exact ⟨rfl, hs⟩
 | x :: l, i, s, t, hs, h => by
  rw [goS] at h
  split at h
  ·obtain ⟨h1, h2⟩ := goS_lens p v ls hls l (i + 1) _ t (by
    intro y hy
    simp only [nextS] at hy
    rcases List.mem_append.1 hy with hy | hy
    ·exact hs y hy
    ·rw [List.mem_singleton.1 hy]
     simp only [List.getD_eq_getElem?_getD]
     cases h3 : ls[i + 1]? with
     | none => simp
     | some z => exact hls z (List.mem_of_getElem? h3)) h
   refine ⟨?_, h2⟩
   rw [h1]
   simp only [nextS, List.length_append, List.length_cons, List.length_nil]
   omega
  ·cases h
theorem getD_lens {ls : List (List Int)} (hls : ∀ y ∈ ls, y.length ≤ 3) (i : Nat) : (ls.getD i []).length ≤ 3 := by
 rw [List.getD_eq_getElem?_getD]
 cases h3 : ls[i]? with
 | none => simp
 | some z => exact hls z (List.mem_of_getElem? h3)
theorem ofS_lens3 {p : TProblem} {vehicle : Int} {l : List TVisit} (law : Law p) : (ofS p vehicle l).1.Steps.length ≤ l.length + 2 ∧ ∀ s ∈ (ofS p vehicle l).1.Steps, s.Load.length ≤ 3 := by
 have hz : (zPlan : TPlan).Steps.length ≤ l.length + 2 ∧ ∀ s ∈ (zPlan : TPlan).Steps, s.Load.length ≤ 3 := ⟨by simp [zPlan], fun s hs => by cases hs⟩
 by_cases hv : vehicle < 0 ∨ (p.Vehicles.length : Int) ≤ vehicle
 ·unfold ofS
  rw [if_pos hv]
  exact hz
 by_cases hf : firstS p (rdVehicle p.Vehicles vehicle) l = 0
 ·rcases ofS_two hv hf with e | ⟨-, s, hs, es, hlt⟩
  ·rw [e]; exact hz
  ·rw [es]
   have hls : ∀ y ∈ loadsS p l, y.length ≤ 3 := by
    intro y hy
    unfold loadsS at hy
    obtain ⟨k, _, rfl⟩ := List.mem_map.1 hy
    rw [nowS_length]
    have := law.d1
    omega
   obtain ⟨h1, h2⟩ := goS_lens _ _ _ hls _ _ _ _ (fun x hx => by
    simp only [beginTS] at hx
    rw [List.mem_singleton.1 hx]
    exact getD_lens hls 0) hs
   unfold endS
   rw [if_neg hlt]
   refine ⟨?_, fun x hx => ?_⟩
   ·simp only [List.length_append, h1, List.length_cons, List.length_nil, beginTS]
    omega
   ·rcases List.mem_append.1 hx with hx | hx
    ·exact h2 x hx
    ·rw [List.mem_singleton.1 hx]
     exact getD_lens hls _
 ·unfold ofS
  rw [if_neg hv, if_pos hf]
  exact hz
theorem ofS_lens {p : TProblem} {vehicle : Int} {l : List TVisit} (law : Law p) (hl : l.length ≤ 200) : (ofS p vehicle l).1.Steps.length ≤ 4611686018427387904 ∧ ∀ s ∈ (ofS p vehicle l).1.Steps, s.Load.length ≤ 4611686018427387904 := by
 obtain ⟨h1, h2⟩ := ofS_lens3 (vehicle := vehicle) (l := l) law
 exact ⟨by omega, fun s hs => by have := h2 s hs; omega⟩
theorem fitS_lens3 {p : TProblem} {vehicle : Int} {l : List TVisit} (law : Law p) : (fitS p vehicle l).1.Steps.length ≤ l.length + 4 ∧ ∀ s ∈ (fitS p vehicle l).1.Steps, s.Load.length ≤ 3 := by
 by_cases h : (fitS p vehicle l).2 = 0
 ·obtain ⟨h0, h1, L, e, hn, ho⟩ := fitS_at law h
  have hV := law.veh _ (rdVeh_mem p.Vehicles vehicle h0 h1)
  have hb := hV.brl
  have hL : L.length = l.length + (rdVehicle p.Vehicles vehicle).Breaks.length := by rw [noB_onB_len L, hn, ho, brks_len]
  rw [e]
  obtain ⟨h1, h2⟩ := ofS_lens3 (vehicle := vehicle) (l := L) law
  exact ⟨by omega, h2⟩
 ·rw [fitS_zero h]
  exact ⟨by simp [zPlan], fun s hs => by cases hs⟩
theorem fitS_lens {p : TProblem} {vehicle : Int} {l : List TVisit} (law : Law p) (hl : l.length ≤ 200) : (fitS p vehicle l).1.Steps.length ≤ 4611686018427387904 ∧ ∀ s ∈ (fitS p vehicle l).1.Steps, s.Load.length ≤ 4611686018427387904 := by
 obtain ⟨h1, h2⟩ := fitS_lens3 (vehicle := vehicle) (l := l) law
 exact ⟨by omega, fun s hs => by have := h2 s hs; omega⟩
end Go.Proofs.Ytemjpgmfignhnaa
