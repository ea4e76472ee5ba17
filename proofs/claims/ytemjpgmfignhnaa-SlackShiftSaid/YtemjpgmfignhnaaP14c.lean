/- What layer 14's statements ask, in plain words.
Conditions: none. -/
import Derived.Test.YtemjpgmfignhnaaP14b
import Derived.Test.YtemjpgmfignhnaaR14d
namespace Go.Proofs.Ytemjpgmfignhnaa
open Go.RowKit Go.Proofs.YtemjpgmfignhnaaW.PrintWords Go.Proofs.YtemjpgmfignhnaaW.PrintLast Go.Proofs.YtemjpgmfignhnaaW.PrintMore
set_option linter.unusedVariables false
set_option linter.unusedSimpArgs false
theorem u64_nn (x : Int) : 0 ≤ IntKind.u64.wrap x := by
  simp only [IntKind.wrap, IntKind.signed, IntKind.bits]
  simp
  omega
theorem mod_in (x m : Int) (hm : 0 < m) (h : m ≤ 1000000) : 0 ≤ wrap64 ((IntKind.u64.wrap x).tmod m) ∧ wrap64 ((IntKind.u64.wrap x).tmod m) < m := by
  have h0 := Int.tmod_nonneg m (u64_nn x)
  have h1 := Int.tmod_lt_of_pos (IntKind.u64.wrap x) hm
  rw [IntWalk.wrap64_in _ (by omega)]
  exact ⟨h0, h1⟩
section
variable {p : TProblem} {v : TVehicle} {x : TPlan}
theorem endsS_endOf (steps : List TStep) (t : Int) : endsS p v steps t = endOf v (goR p v steps t) := by
  unfold endsS endOf
  cases goR p v steps t <;> rfl
theorem MadeX.nat_rd (i : Nat) : rd (latestS p v x.Steps) i = (latestS p v x.Steps).getD i 0 := by simp [rd]
theorem endsW_late (h : Made p v x) (i : Nat) (t : Int) (ht : (latestS p v x.Steps).getD i 0 < t) : endsW p v x.Steps i t = (0, false) := by
  unfold endsW
  rw [if_pos (.inr (.inr (by rw [MadeX.nat_rd]; exact ht)))]
theorem law_ends (law : Law p) (h : Made p v x) (i : Nat) (hi : i < x.Steps.length) (t : Int) (h0 : -2000000000 ≤ t) (h1 : t ≤ 2000000000) :
    (endsW p v x.Steps i t).2 = (endOf v (goR p v (x.Steps.drop i) t)).2 ∧ (endsW p v x.Steps i t).1 = if (endOf v (goR p v (x.Steps.drop i) t)).2 = true then (endOf v (goR p v (x.Steps.drop i) t)).1 else 0 := by
  obtain ⟨k1, k2, -⟩ := h.key i hi
  rw [← endsS_endOf]
  by_cases ht : t ≤ (latestS p v x.Steps).getD i 0
  · have e := (k1 t).2 ht
    rw [endsW_eq law h i t h0 h1, k2 t ht, if_pos e]
    exact ⟨rfl, rfl⟩
  · have e : (endsS p v (x.Steps.drop i) t).2 = false := by
      cases hx : (endsS p v (x.Steps.drop i) t).2
      · rfl
      · exact absurd ((k1 t).1 hx) ht
    rw [endsW_late h i t (by omega), e, if_neg (by decide)]
    exact ⟨rfl, rfl⟩
theorem law_plan (law : Law p) (h : MadeX p v x) (i : Nat) (hi : i < x.Steps.length) (m : Int) (h0 : 0 ≤ m) (h1 : m < 1000) :
    endsW p v x.Steps i x.Steps[i].Arrival = ((x.Steps.getLastD zStep).Arrival, true) ∧ ((endsW p v x.Steps i (x.Steps[i].Arrival + m)).2 = true → (endsW p v x.Steps i x.Steps[i].Arrival).1 ≤ (endsW p v x.Steps i (x.Steps[i].Arrival + m)).1) := by
  obtain ⟨k1, k2, k3, k4, k5⟩ := h.made.key i hi
  have hb := h.arr _ (List.getElem_mem hi)
  have e : x.Steps.getD i zStep = x.Steps[i] := by simp [List.getElem?_eq_getElem hi]
  rw [e] at k3 k4
  have e1 := endsW_eq law h.made i x.Steps[i].Arrival (by omega) (by omega)
  have e2 := endsW_eq law h.made i (x.Steps[i].Arrival + m) (by omega) (by omega)
  refine ⟨by rw [e1, k4], fun h2 => ?_⟩
  by_cases ht : x.Steps[i].Arrival + m ≤ (latestS p v x.Steps).getD i 0
  · rw [e1, e2]
    exact k5 _ _ (by omega) ht
  · rw [endsW_late h.made i _ (by omega)] at h2
    cases h2
/-- At its Latest each step is in time, one later it is not. -/
theorem law_latest (h : Made p v x) (i : Nat) (hi : i < x.Steps.length) :
    (endOf v (goR p v (x.Steps.drop i) (rd (latestS p v x.Steps) i))).2 = true ∧ (endOf v (goR p v (x.Steps.drop i) (rd (latestS p v x.Steps) i + 1))).2 = false := by
  obtain ⟨k1, -⟩ := h.key i hi
  rw [← endsS_endOf, ← endsS_endOf, MadeX.nat_rd]
  refine ⟨(k1 _).2 (Int.le_refl _), ?_⟩
  cases hx : (endsS p v (x.Steps.drop i) ((latestS p v x.Steps).getD i 0 + 1)).2
  · rfl
  · have := (k1 _).1 hx
    omega
theorem latestS_in (law : Law p) (hv : VehOk p v) (h : MadeX p v x) (i : Nat) (hi : i < x.Steps.length) : x.Steps[i].Arrival ≤ rd (latestS p v x.Steps) i ∧ rd (latestS p v x.Steps) i ≤ 1000001 := by
  obtain ⟨-, -, k3, -⟩ := h.made.key i hi
  have e : x.Steps.getD i zStep = x.Steps[i] := by simp [List.getElem?_eq_getElem hi]
  rw [e] at k3
  have hsh := hv.shift
  have hok : ∀ s ∈ x.Steps, StepOk p v s.Visit := fun s hs => stepOk law hv (h.brk s hs)
  have hh : ∀ l : List TStep, (∀ s ∈ l, StepOk p v s.Visit) → ∀ y ∈ lateS p v l, 0 ≤ y ∧ y ≤ 1000000 := by
    intro l
    induction l with
    | nil => intro _ y hy; cases hy
    | cons a l ih =>
      intro hl y hy
      cases l with
      | nil =>
        obtain rfl : y = v.Shift.To := by simpa [lateS] using hy
        omega
      | cons b r =>
        rw [lateS] at hy
        rcases List.mem_cons.1 hy with rfl | hy
        · exact lastS_in (hl a List.mem_cons_self).win _
        · exact ih (fun s hs => hl s (List.mem_cons_of_mem _ hs)) y hy
  rw [MadeX.nat_rd]
  refine ⟨k3, ?_⟩
  match hs : x.Steps, h.made.len, hi, hok with
  | a :: b :: r, _, hi, hok =>
    have hm := hh (b :: r) (fun s hs => hok s (List.mem_cons_of_mem _ hs))
    rw [latestS]
    cases i with
    | zero =>
      have h1 : (lateS p v (b :: r)).headD 0 ≤ 1000000 := (late_head (p := p) (v := v) (by omega) (b :: r) (by simp) (fun s hs => hok s (List.mem_cons_of_mem _ hs))).2
      have h2 := law.time a.Place b.Place
      simp only [List.getD_cons_zero]
      omega
    | succ k =>
      simp only [List.getD_cons_succ]
      have hk : k < (lateS p v (b :: r)).length := by rw [lateS_length]; simpa using hi
      rw [List.getD_eq_getElem?_getD, List.getElem?_eq_getElem hk]
      have := (hm _ (List.getElem_mem hk)).2
      simp only [Option.getD_some]
      omega
theorem spare_at (i : Nat) (hi : i < x.Steps.length) : rd (spareS p v x.Steps) i = wrap64 (rd (latestS p v x.Steps) i - x.Steps[i].Arrival) := by
  unfold spareS rd
  simp [List.getElem?_eq_getElem hi, hi]
end
/-! ### the contracts, of a plan that was made -/
section
variable (q : PV) (p : TProblem) (x : TPlan) (A : Option Addr) (c : Nat) (w : World)
theorem slackEnds_x (i t : Int) (hlp : Good p) (law : Law p) (hq : q.Ok p w) (hr : Kd.C kStep w A x.Steps.length x.Steps) (hv0 : 0 ≤ x.Vehicle) (hv1 : x.Vehicle < (p.Vehicles.length : Int)) (h : MadeX p (rdVehicle p.Vehicles x.Vehicle) x) :
    Calls Try.prog 64 #[q.val p, planV x A c, .int .i64 i, .int .i64 t] w
      fun e w' => e = .returned (.tuple #[.int .i64 (endsW p (rdVehicle p.Vehicles x.Vehicle) x.Steps i t).1, .bool (endsW p (rdVehicle p.Vehicles x.Vehicle) x.Steps i t).2]) ∧ Below w.heap.size w w' :=
  slackEnds_any q p x.Steps x.Vehicle x.Time x.Dist x.Wait x.Service x.Cost A c i t w hlp law hq hr hv0 hv1 h.made.len (Nat.le_trans h.len (by decide)) h.brk
theorem slackLatest_x (hlp : Good p) (law : Law p) (hq : q.Ok p w) (hr : Kd.C kStep w A x.Steps.length x.Steps) (hv0 : 0 ≤ x.Vehicle) (hv1 : x.Vehicle < (p.Vehicles.length : Int)) (h : MadeX p (rdVehicle p.Vehicles x.Vehicle) x) :
    Calls Try.prog 66 #[q.val p, planV x A c] w
      fun e w' => ∃ A c, e = .returned (.slice A x.Steps.length c) ∧ x.Steps.length ≤ c ∧ Kd.C (Kd.int .i64) w' A x.Steps.length (latestS p (rdVehicle p.Vehicles x.Vehicle) x.Steps) ∧ Below w.heap.size w w' :=
  slackLatest_n q p x.Steps x.Vehicle x.Time x.Dist x.Wait x.Service x.Cost A c w hlp law hq hr hv0 hv1 h.made.len (Nat.le_trans h.len (by decide)) h.brk
theorem slackSpare_x (hlp : Good p) (law : Law p) (hq : q.Ok p w) (hr : Kd.C kStep w A x.Steps.length x.Steps) (hv0 : 0 ≤ x.Vehicle) (hv1 : x.Vehicle < (p.Vehicles.length : Int)) (h : MadeX p (rdVehicle p.Vehicles x.Vehicle) x) :
    Calls Try.prog 67 #[q.val p, planV x A c] w
      fun e w' => ∃ A c, e = .returned (.slice A x.Steps.length c) ∧ x.Steps.length ≤ c ∧ Kd.C (Kd.int .i64) w' A x.Steps.length (spareS p (rdVehicle p.Vehicles x.Vehicle) x.Steps) ∧ Below w.heap.size w w' := by
  refine (slackSpare_any q p x.Steps x.Vehicle x.Time x.Dist x.Wait x.Service x.Cost A c w hlp law hq hr hv0 hv1 h.made.len (Nat.le_trans h.len (by decide)) h.brk).mono ?_
  rintro e w' ⟨A1, c1, rfl, h⟩
  rw [show (spareS p (rdVehicle p.Vehicles x.Vehicle) x.Steps).length = x.Steps.length by simp [spareS]] at h ⊢
  exact ⟨A1, c1, rfl, h⟩
end
end Go.Proofs.Ytemjpgmfignhnaa
