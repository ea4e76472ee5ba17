/- The plan of a list of visits, in plain words, and how great its numbers are.
Conditions: none. -/
import Derived.Test.YtemjpgmfignhnaaR13e
namespace Go.Proofs.Ytemjpgmfignhnaa
open Go.RowKit Go.Proofs.YtemjpgmfignhnaaW.PrintWords Go.Proofs.YtemjpgmfignhnaaW.PrintLast Go.Proofs.YtemjpgmfignhnaaW.PrintMore
set_option linter.unusedVariables false
set_option linter.unusedSimpArgs false
def stopAt (p : TProblem) (v : TVehicle) (at_ : Int) (x : TVisit) : TStop := if (stopS p x).2 = true then (stopS p x).1 else ⟨at_, (rdBreak v.Breaks x.Item).Service, (rdBreak v.Breaks x.Item).Windows⟩
structure TS where
  leave : Int
  at_ : Int
  tm : Int
  di : Int
  wt : Int
  se : Int
  steps : List TStep
def comeS (p : TProblem) (v : TVehicle) (x : TVisit) (s : TS) : Int := s.leave + cellS p.Time s.at_ (stopAt p v s.at_ x).Place
def beginS (p : TProblem) (v : TVehicle) (x : TVisit) (s : TS) : Int := (startS (comeS p v x s) (stopAt p v s.at_ x).Windows).1
def nextS (p : TProblem) (v : TVehicle) (ls : List (List Int)) (i : Nat) (x : TVisit) (s : TS) : TS :=
  ⟨beginS p v x s + (stopAt p v s.at_ x).Service, (stopAt p v s.at_ x).Place, s.tm + cellS p.Time s.at_ (stopAt p v s.at_ x).Place, s.di + cellS p.Dist s.at_ (stopAt p v s.at_ x).Place, s.wt + beginS p v x s - comeS p v x s, s.se + (stopAt p v s.at_ x).Service,
    s.steps ++ [⟨x, (stopAt p v s.at_ x).Place, comeS p v x s, beginS p v x s - comeS p v x s, (stopAt p v s.at_ x).Service, ls.getD (i + 1) [], s.tm + cellS p.Time s.at_ (stopAt p v s.at_ x).Place, s.di + cellS p.Dist s.at_ (stopAt p v s.at_ x).Place⟩]⟩
def goS (p : TProblem) (v : TVehicle) (ls : List (List Int)) : List TVisit → Nat → TS → Option TS
  | [], _, s => some s
  | x :: l, i, s => if (startS (comeS p v x s) (stopAt p v s.at_ x).Windows).2 = true then goS p v ls l (i + 1) (nextS p v ls i x s) else none
def beginTS (v : TVehicle) (ls : List (List Int)) : TS := ⟨v.Shift.From, v.Start, 0, 0, 0, 0, [⟨⟨5, 0⟩, v.Start, v.Shift.From, 0, 0, ls.getD 0 [], 0, 0⟩]⟩
def endS (p : TProblem) (v : TVehicle) (vehicle : Int) (ls : List (List Int)) (n : Nat) (s : TS) : TPlan × Int :=
  if v.Shift.To < s.leave + cellS p.Time s.at_ v.End then (zPlan, 167) else
  (⟨vehicle, s.steps ++ [⟨⟨6, 0⟩, v.End, s.leave + cellS p.Time s.at_ v.End, 0, 0, ls.getD n [], s.tm + cellS p.Time s.at_ v.End, s.di + cellS p.Dist s.at_ v.End⟩], s.tm + cellS p.Time s.at_ v.End, s.di + cellS p.Dist s.at_ v.End, s.wt, s.se,
    v.Fixed + (s.tm + cellS p.Time s.at_ v.End) * v.PerTime + (s.di + cellS p.Dist s.at_ v.End) * v.PerDist⟩, 0)
def runS (p : TProblem) (v : TVehicle) (vehicle : Int) (l : List TVisit) : Option TS → TPlan × Int
  | none => (zPlan, 167)
  | some s => endS p v vehicle (loadsS p l) l.length s
def ofS (p : TProblem) (vehicle : Int) (l : List TVisit) : TPlan × Int :=
  if vehicle < 0 ∨ (p.Vehicles.length : Int) ≤ vehicle then (zPlan, 160) else
  if firstS p (rdVehicle p.Vehicles vehicle) l ≠ 0 then (zPlan, firstS p (rdVehicle p.Vehicles vehicle) l) else
  runS p (rdVehicle p.Vehicles vehicle) vehicle l (goS p (rdVehicle p.Vehicles vehicle) (loadsS p l) l 0 (beginTS (rdVehicle p.Vehicles vehicle) (loadsS p l)))
theorem goS_at (p : TProblem) (v : TVehicle) (ls : List (List Int)) (l : List TVisit) (k : Nat) (h : k < l.length) (i : Nat) (s : TS) : goS p v ls (l.drop k) i s = if (startS (comeS p v l[k] s) (stopAt p v s.at_ l[k]).Windows).2 = true then goS p v ls (l.drop (k + 1)) (i + 1) (nextS p v ls i l[k] s) else none := by
  rw [List.drop_eq_getElem_cons h, goS]
theorem cellsOk_all (n : Int) : ∀ (l : List Int) (t : Nat), cellsOk n t l = true → ∀ c ∈ l, -1 ≤ c ∧ c ≤ 32000000
  | [], _, _, _, hc => by cases hc
  | x :: l, t, h, c, hc => by
    simp only [cellsOk, Bool.and_eq_true] at h
    rcases List.mem_cons.1 hc with rfl | hc
    · have := h.1
      simp only [okCell, Bool.not_eq_true', Bool.or_eq_false_iff, decide_eq_false_iff_not] at this
      omega
    · exact cellsOk_all n l (t + 1) h.2 c hc
theorem cellS_le {m : TMatrix} {n : Int} (h : matrixB m n = true) (h0 : 1 ≤ n) (h1 : n ≤ 32) (i j : Int) : -1 ≤ cellS m i j ∧ cellS m i j ≤ 32000000 := by
  have hm := matOk_of h h0 h1
  simp only [matrixB, Bool.and_eq_true, decide_eq_true_eq] at h
  unfold cellS
  split
  · rename_i hu
    simp only [Bool.and_eq_true] at hu
    have hi := upB_true hu.1
    have hj := upB_true hu.2
    obtain ⟨m0, m1, m2⟩ := cell_in hm.lo hi.1 hi.2 hj.1 hj.2 hm.hi
    have hlt : (i * m.N + j).toNat < m.Cells.length := by have := hm.len; omega
    have e : rd m.Cells (i * m.N + j) = m.Cells[(i * m.N + j).toNat] := by simp [rd, List.getElem?_eq_getElem hlt]
    rw [e]
    exact cellsOk_all n _ _ h.2 _ (List.getElem_mem _)
  · omega
theorem Law.time {p : TProblem} (h : Law p) (i j : Int) : -1 ≤ cellS p.Time i j ∧ cellS p.Time i j ≤ 32000000 := cellS_le h.mt h.n0 h.n1 i j
theorem Law.dist {p : TProblem} (h : Law p) (i j : Int) : -1 ≤ cellS p.Dist i j ∧ cellS p.Dist i j ≤ 32000000 := cellS_le h.md h.n0 h.n1 i j
/-- A lawful vehicle, in plain words. -/
structure VehOk (p : TProblem) (v : TVehicle) : Prop where
  brl : v.Breaks.length ≤ 2
  brk : ∀ b ∈ v.Breaks, windowsB b.Windows = true ∧ 0 ≤ b.Service ∧ b.Service ≤ 1000000
  cap : amountsS v.Cap p.Dims = 0
  shift : 0 ≤ v.Shift.From ∧ v.Shift.From ≤ v.Shift.To ∧ v.Shift.To ≤ 1000000
  st : 0 ≤ v.Start ∧ v.Start ≤ p.Time.N - 1
  en : 0 ≤ v.End ∧ v.End ≤ p.Time.N - 1
  fx : 0 ≤ v.Fixed ∧ v.Fixed ≤ 1000000
  pt : 0 ≤ v.PerTime ∧ v.PerTime ≤ 1000000
  pd : 0 ≤ v.PerDist ∧ v.PerDist ≤ 1000000
  mx : 0 ≤ v.MaxTasks ∧ v.MaxTasks ≤ 12
theorem rdVeh_mem (l : List TVehicle) (i : Int) (h0 : 0 ≤ i) (h1 : i < l.length) : rdVehicle l i ∈ l := by
  have : rdVehicle l i = l[i.toNat]'(by omega) := by simp [rdVehicle, List.getElem?_eq_getElem (show i.toNat < l.length by omega)]
  rw [this]
  exact List.getElem_mem _
theorem Law.veh {p : TProblem} (h : Law p) (v : TVehicle) (hv : v ∈ p.Vehicles) : VehOk p v := by
  have hb := h.gv _ hv
  simp only [vehicleB, breaksB, breakB, Bool.and_eq_true, decide_eq_true_eq, List.all_eq_true] at hb
  obtain ⟨⟨⟨⟨⟨⟨⟨⟨⟨⟨h1, h2⟩, h3⟩, h4⟩, h5⟩, h6⟩, h7⟩, h8⟩, h9⟩, h10⟩, h11⟩ := hb
  have hw := winOk_of h7
  have h0 := hw.pos 0 (by simp)
  simp only [List.getElem_cons_zero] at h0
  exact ⟨h1, fun b hb' => ⟨(h2 b hb').1, upB_true (h2 b hb').2⟩, h5, h0, upB_true h3, upB_true h4, upB_true h8, upB_true h9, upB_true h10, upB_true h11⟩
/-! ### who has passed the look for the first error -/
theorem scanS_brk (p : TProblem) : ∀ (l : List TVisit) (n t s : Int) (r : Int × Int × Int), scanS p l n t s = some r → n ≤ r.1 ∧ ∀ x ∈ l, x.Kind = 4 → n ≤ x.Item ∧ x.Item < r.1
  | [], n, t, s, r, h => by
    simp only [scanS, Option.some.injEq] at h
    subst h
    exact ⟨Int.le_refl _, fun x hx => by cases hx⟩
  | y :: l, n, t, s, r, h => by
    unfold scanS at h
    split at h
    · split at h
      · rename_i h4 he
        obtain ⟨a, b⟩ := scanS_brk p l _ _ _ r h
        refine ⟨by omega, fun x hx k4 => ?_⟩
        rcases List.mem_cons.1 hx with rfl | hx
        · omega
        · have := b x hx k4
          omega
      · cases h
    · rename_i h4
      have key : ∀ t' s', scanS p l n t' s' = some r → n ≤ r.1 ∧ ∀ x ∈ y :: l, x.Kind = 4 → n ≤ x.Item ∧ x.Item < r.1 := fun t' s' h => by
        obtain ⟨a, b⟩ := scanS_brk p l _ _ _ r h
        refine ⟨a, fun x hx k4 => ?_⟩
        rcases List.mem_cons.1 hx with rfl | hx
        · exact absurd k4 h4
        · exact b x hx k4
      split at h
      · exact key _ _ h
      · exact key _ _ h
structure FirstOk (p : TProblem) (v : TVehicle) (l : List TVisit) : Prop where
  pairs : pairsB p l = true
  scan : ∃ t s, scanS p l 0 0 0 = some ((v.Breaks.length : Int), t, s) ∧ bits .andNot .u64 s v.Skills = 0 ∧ t ≤ v.MaxTasks
  loads : ∀ x ∈ loadsS p l, underB x v.Cap = true
  travel : travelS p v.End v.Start l = 0
theorem firstOk_of {p : TProblem} {v : TVehicle} {l : List TVisit} (h : firstS p v l = 0) : FirstOk p v l := by
  unfold firstS at h
  split at h
  · cases h
  · rename_i hp
    cases hs : scanS p l 0 0 0 with
    | none =>
      rw [hs] at h
      cases h
    | some r =>
      obtain ⟨n, t, s⟩ := r
      rw [hs, afterS] at h
      split at h
      · cases h
      · split at h
        · cases h
        · split at h
          · cases h
          · split at h
            · cases h
            · rename_i a b c d
              obtain rfl : n = v.Breaks.length := by simpa using a
              refine ⟨by simpa using hp, ⟨t, s, hs, by simpa using b, by omega⟩, fun x hx => ?_, h⟩
              simp only [Bool.not_eq_false, List.all_eq_true] at d
              exact d x hx
theorem FirstOk.brk {p : TProblem} {v : TVehicle} {l : List TVisit} (h : FirstOk p v l) (x : TVisit) (hx : x ∈ l) (hs : (stopS p x).2 = false) : x.Kind = 4 ∧ 0 ≤ x.Item ∧ x.Item < v.Breaks.length := by
  obtain ⟨t, s, h1, _⟩ := h.scan
  obtain ⟨_, h2⟩ := scanS_brk p l 0 0 0 _ h1
  obtain ⟨k, hk, rfl⟩ := List.mem_iff_getElem.1 hx
  have hp := h.pairs
  unfold pairsB at hp
  have := List.all_eq_true.1 hp k (List.mem_range.2 hk)
  unfold pairAt at this
  rw [rdVisit_nat l k hk, hs] at this
  have k4 : l[k].Kind = 4 := by simpa using this
  exact ⟨k4, h2 _ hx k4⟩
/-- Where a visit is and when: lawful in any case. -/
theorem stopAt_ok {p : TProblem} (law : Law p) {v : TVehicle} (hv : VehOk p v) {l : List TVisit} (h : FirstOk p v l) (at_ : Int) (x : TVisit) (hx : x ∈ l) :
    windowsB (stopAt p v at_ x).Windows = true ∧ 0 ≤ (stopAt p v at_ x).Service ∧ (stopAt p v at_ x).Service ≤ 1000000 := by
  unfold stopAt
  cases hs : (stopS p x).2 with
  | true =>
    have := law.stopB hs
    simp only [stopB, Bool.and_eq_true] at this
    exact ⟨this.2, upB_true this.1.2⟩
  | false =>
    obtain ⟨_, h0, h1⟩ := h.brk x hx hs
    have e : rdBreak v.Breaks x.Item = v.Breaks[x.Item.toNat]'(by omega) := by simp [rdBreak, List.getElem?_eq_getElem (show x.Item.toNat < v.Breaks.length by omega)]
    simp only [Bool.false_eq_true, if_false]
    rw [e]
    exact hv.brk _ (List.getElem_mem _)
theorem startS_ok {l : List TWindow} (hw : WinOk l) {t : Int} (h : (startS t l).2 = true) : t ≤ (startS t l).1 ∧ 0 ≤ (startS t l).1 ∧ (startS t l).1 ≤ 1000000 := by
  have key : ∀ (k : Nat), (startS t (l.drop k)).2 = true → t ≤ (startS t (l.drop k)).1 ∧ 0 ≤ (startS t (l.drop k)).1 ∧ (startS t (l.drop k)).1 ≤ 1000000 := by
    intro k
    generalize hm : l.length - k = m
    induction m generalizing k with
    | zero =>
      intro h
      rw [List.drop_of_length_le (by omega), startS] at h
      cases h
    | succ m ih =>
      intro h
      have hk : k < l.length := by omega
      rw [startS_at t l k hk] at h ⊢
      have hp := hw.pos k hk
      split
      · split <;> simp only <;> omega
      · rename_i hn
        rw [if_neg hn] at h
        exact ih (k + 1) (by omega) h
  exact key 0 h
/-- How great the numbers are behind i visits. -/
structure TSOk (i : Nat) (s : TS) : Prop where
  le : 0 ≤ s.leave ∧ s.leave ≤ 2000000
  tm : -(i : Int) ≤ s.tm ∧ s.tm ≤ 32000000 * i
  di : -(i : Int) ≤ s.di ∧ s.di ≤ 32000000 * i
  wt : -(2 * (i : Int)) ≤ s.wt ∧ s.wt ≤ 2000000 * i
  se : 0 ≤ s.se ∧ s.se ≤ 1000000 * i
  len : s.steps.length = i + 1
theorem beginTS_ok {p : TProblem} {v : TVehicle} (hv : VehOk p v) (ls : List (List Int)) : TSOk 0 (beginTS v ls) := by
  have := hv.shift
  refine ⟨?_, ?_, ?_, ?_, ?_, rfl⟩ <;> simp [beginTS] <;> omega
theorem nextS_ok {p : TProblem} (law : Law p) {v : TVehicle} (hv : VehOk p v) {l : List TVisit} (hf : FirstOk p v l) (ls : List (List Int)) {i : Nat} {s : TS} (h : TSOk i s) (x : TVisit) (hx : x ∈ l)
    (hok : (startS (comeS p v x s) (stopAt p v s.at_ x).Windows).2 = true) : TSOk (i + 1) (nextS p v ls i x s) := by
  obtain ⟨w1, w2, w3⟩ := stopAt_ok law hv hf s.at_ x hx
  have hb := startS_ok (winOk_of w1) hok
  have ht := law.time s.at_ (stopAt p v s.at_ x).Place
  have hd := law.dist s.at_ (stopAt p v s.at_ x).Place
  have h1 := h.le; have h2 := h.tm; have h3 := h.di; have h4 := h.wt; have h5 := h.se
  have hc : comeS p v x s = s.leave + cellS p.Time s.at_ (stopAt p v s.at_ x).Place := rfl
  have hbe : beginS p v x s = (startS (comeS p v x s) (stopAt p v s.at_ x).Windows).1 := rfl
  rw [← hbe] at hb
  refine ⟨?_, ?_, ?_, ?_, ?_, by simp [nextS, h.len]⟩ <;> simp only [nextS] <;> omega
end Go.Proofs.Ytemjpgmfignhnaa
