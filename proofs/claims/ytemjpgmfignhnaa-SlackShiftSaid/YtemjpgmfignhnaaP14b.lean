/- The plan that layer 14's statements begin with, in plain words.
Conditions: none. -/
import Derived.Test.YtemjpgmfignhnaaP14
namespace Go.Proofs.Ytemjpgmfignhnaa
open Go.RowKit Go.Proofs.YtemjpgmfignhnaaW.PrintWords Go.Proofs.YtemjpgmfignhnaaW.PrintLast Go.Proofs.YtemjpgmfignhnaaW.PrintMore
set_option linter.unusedVariables false
set_option linter.unusedSimpArgs false
/-- A plan's value. -/
def planV (x : TPlan) (A : Option Addr) (c : Nat) : Value := .agg #[.int .i64 x.Vehicle, .slice A x.Steps.length c, .int .i64 x.Time, .int .i64 x.Dist, .int .i64 x.Wait, .int .i64 x.Service, .int .i64 x.Cost]
/-- The plan of a route, and whether there is one. -/
def madeS (p : TProblem) (vehicle : Int) (l : List TVisit) : TPlan × Bool :=
  if checkS p ≠ 0 ∨ 30 < l.length then (zPlan, false) else ((fitS p vehicle l).1, decide ((fitS p vehicle l).2 = 0))
structure MadeX (p : TProblem) (v : TVehicle) (x : TPlan) : Prop where
  made : Made p v x
  brk : ∀ s ∈ x.Steps, s.Visit.Kind = 4 → 0 ≤ s.Visit.Item ∧ s.Visit.Item < v.Breaks.length
  arr : ∀ s ∈ x.Steps, -1 ≤ s.Arrival ∧ s.Arrival ≤ 34000000
  len : x.Steps.length ≤ 100
theorem Chain.arr {p : TProblem} {v : TVehicle} (law : Law p) : ∀ (l : List TStep) (t at_ : Int), Chain p v t at_ l → 0 ≤ t → t ≤ 2000000 → ∀ s ∈ l, -1 ≤ s.Arrival ∧ s.Arrival ≤ 34000000
  | [], _, _, h, _, _ => h.elim
  | [a], t, at_, h, h0, h1 => by
    intro s hs
    obtain rfl := List.mem_singleton.1 hs
    have := law.time at_ s.Place
    have := h.1
    omega
  | a :: b :: r, t, at_, h, h0, h1 => by
    obtain ⟨h2, h3, h4, h5, h6, h7⟩ := h
    intro s hs
    rcases List.mem_cons.1 hs with rfl | hs
    · have := law.time at_ s.Place
      omega
    · have k1 := startS_ok h5.win h6
      have k2 := h5.ser
      exact Chain.arr law (b :: r) _ _ h7 (by omega) (by omega) s hs
theorem of_visits {p : TProblem} {vehicle : Int} {l : List TVisit} (law : Law p) (h : (ofS p vehicle l).2 = 0) : (ofS p vehicle l).1.Steps.map (·.Visit) = ⟨5, 0⟩ :: (l ++ [⟨6, 0⟩]) ∧ FirstOk p (rdVehicle p.Vehicles vehicle) l := by
  unfold ofS at h ⊢
  split at h
  · cases h
  rename_i hv
  have hv0 : 0 ≤ vehicle := Int.not_lt.1 (fun e => hv (.inl e))
  have hv1 : vehicle < p.Vehicles.length := Int.not_le.1 (fun e => hv (.inr e))
  rw [if_neg hv]
  have VOK := law.veh _ (rdVeh_mem p.Vehicles vehicle hv0 hv1)
  generalize rdVehicle p.Vehicles vehicle = v at *
  split at h
  · rename_i hf
    exact absurd h hf
  rename_i hf
  rw [if_neg hf]
  have FOK := firstOk_of (Classical.not_not.1 hf)
  refine ⟨?_, FOK⟩
  cases hg : goS p v (loadsS p l) l 0 (beginTS v (loadsS p l)) with
  | none =>
    rw [hg] at h
    cases h
  | some s =>
    rw [hg] at h
    simp only [runS, endS] at h ⊢
    split at h
    · cases h
    rename_i hle
    rw [if_neg hle]
    obtain ⟨tail, e1, e2, e3⟩ := goS_chain p v (loadsS p l) l 0 _ s (fun x hx => ⟨fun hs => (FOK.brk x hx hs).1, fun h4 => by
      have hs : (stopS p x).2 = false := by
        have : taskOf x = (⟨false, 0⟩, false) := taskOf_none (by omega) (by omega) (by omega)
        simp [stopS, this]
      exact (FOK.brk x hx hs).2, fun at_ => by
      obtain ⟨a, b⟩ := stopAt_ok law VOK FOK at_ x hx
      exact ⟨winOk_of a, b⟩⟩) hg
    simp only [e1, beginTS, List.map_append, List.map_cons, List.map_nil, e2]
    rfl
theorem madeX_of {p : TProblem} {vehicle : Int} {l : List TVisit} (law : Law p) (h : (ofS p vehicle l).2 = 0) (hl : l.length ≤ 98) : MadeX p (rdVehicle p.Vehicles vehicle) (ofS p vehicle l).1 := by
  obtain ⟨h0, h1, h2, h3, h4⟩ := made_of law h
  obtain ⟨k1, FOK⟩ := of_visits law h
  have VOK := law.veh _ (rdVeh_mem p.Vehicles vehicle h0 h1)
  refine ⟨h3, fun s hs h4 => ?_, ?_, by omega⟩
  · have hm : s.Visit ∈ (ofS p vehicle l).1.Steps.map (·.Visit) := List.mem_map_of_mem hs
    rw [k1] at hm
    rcases List.mem_cons.1 hm with e | hm
    · rw [e] at h4
      cases h4
    · rcases List.mem_append.1 hm with hm | hm
      · have hz : (stopS p s.Visit).2 = false := by
          have : taskOf s.Visit = (⟨false, 0⟩, false) := taskOf_none (by omega) (by omega) (by omega)
          simp [stopS, this]
        exact (FOK.brk _ hm hz).2
      · rw [List.mem_singleton.1 hm] at h4
        cases h4
  · obtain ⟨s0, r, e, e5, ef, hc⟩ := h3.steps
    have hsh := VOK.shift
    rw [e]
    intro s hs
    rcases List.mem_cons.1 hs with rfl | hs
    · omega
    · exact hc.arr law r _ _ (by omega) (by omega) s hs
theorem made_ok {p : TProblem} {vehicle : Int} {l : List TVisit} (h : (madeS p vehicle l).2 = true) :
    Law p ∧ 0 ≤ vehicle ∧ vehicle < p.Vehicles.length ∧ (madeS p vehicle l).1.Vehicle = vehicle ∧ MadeX p (rdVehicle p.Vehicles vehicle) (madeS p vehicle l).1 := by
  unfold madeS at h ⊢
  split at h
  · cases h
  rename_i hc
  rw [if_neg hc]
  have hc0 : checkS p = 0 := Classical.not_not.1 (fun e => hc (.inl e))
  have hl : l.length ≤ 30 := Nat.not_lt.1 (fun e => hc (.inr e))
  have law := law_of hc0
  simp only [decide_eq_true_eq] at h ⊢
  obtain ⟨l', e, hl'⟩ := fit_of h
  rw [e] at h ⊢
  obtain ⟨h0, h1, h2, h3, h4⟩ := made_of law h
  have VOK := law.veh _ (rdVeh_mem p.Vehicles vehicle h0 h1)
  have := hl' VOK.brl
  exact ⟨law, h0, h1, h2, madeX_of law h (by omega)⟩
end Go.Proofs.Ytemjpgmfignhnaa
