/- How late each step of a plan may be come to, in plain words: the windows' two sides, the program's way and the document's.
Conditions: none. -/
import Derived.Test.YtemjpgmfignhnaaP13b
namespace Go.Proofs.Ytemjpgmfignhnaa
open Go.RowKit Go.Proofs.YtemjpgmfignhnaaW.PrintWords Go.Proofs.YtemjpgmfignhnaaW.PrintLast Go.Proofs.YtemjpgmfignhnaaW.PrintMore
set_option linter.unusedVariables false
set_option linter.unusedSimpArgs false
/-! ### windows: the first start, and the last -/
def InW (l : List TWindow) (x : Int) : Prop := ∃ w ∈ l, w.From ≤ x ∧ x ≤ w.To
theorem InW.cons_iff {w : TWindow} {l : List TWindow} {x : Int} : InW (w :: l) x ↔ (w.From ≤ x ∧ x ≤ w.To) ∨ InW l x := by
  constructor
  · rintro ⟨u, hu, h⟩
    rcases List.mem_cons.1 hu with rfl | hu
    · exact .inl h
    · exact .inr ⟨u, hu, h⟩
  · rintro (h | ⟨u, hu, h⟩)
    · exact ⟨w, List.mem_cons_self, h⟩
    · exact ⟨u, List.mem_cons_of_mem _ hu, h⟩
structure WinAsc (l : List TWindow) : Prop where
  pos : ∀ w ∈ l, w.From ≤ w.To
  asc : l.Pairwise (fun a b => a.To < b.From)
theorem WinOk.sorted {l : List TWindow} (h : WinOk l) : WinAsc l := by
  refine ⟨fun w hw => ?_, ?_⟩
  · obtain ⟨i, hi, rfl⟩ := List.mem_iff_getElem.1 hw
    exact (h.pos i hi).2.1
  · rw [List.pairwise_iff_getElem]
    intro i j hi hj hij
    exact h.asc i j hij hj
theorem startS_iff (t L : Int) : ∀ (l : List TWindow), WinAsc l → (((startS t l).2 = true ∧ (startS t l).1 ≤ L) ↔ ∃ x, InW l x ∧ t ≤ x ∧ x ≤ L)
  | [], _ => by
    constructor
    · rintro ⟨h, _⟩; cases h
    · rintro ⟨x, ⟨w, hw, _⟩, _⟩; cases hw
  | w :: l, hs => by
    have h0 := hs.pos w List.mem_cons_self
    obtain ⟨h1, h2⟩ := List.pairwise_cons.1 hs.asc
    have hl : WinAsc l := ⟨fun u hu => hs.pos u (List.mem_cons_of_mem _ hu), h2⟩
    unfold startS
    split
    · rename_i ht
      constructor
      · rintro ⟨_, h⟩
        refine ⟨if t < w.From then w.From else t, InW.cons_iff.2 (.inl ?_), ?_, h⟩ <;> split <;> omega
      · rintro ⟨x, hx, a, b⟩
        refine ⟨rfl, ?_⟩
        rcases InW.cons_iff.1 hx with ⟨c, d⟩ | ⟨u, hu, c, d⟩
        · simp only; split <;> omega
        · have := h1 u hu
          simp only; split <;> omega
    · rename_i ht
      rw [startS_iff t L l hl]
      constructor
      · rintro ⟨x, hx, h⟩
        exact ⟨x, InW.cons_iff.2 (.inr hx), h⟩
      · rintro ⟨x, hx, h⟩
        rcases InW.cons_iff.1 hx with ⟨c, d⟩ | hx
        · omega
        · exact ⟨x, hx, h⟩
theorem lastTo_iff (t L : Int) (l : List TWindow) (hs : WinAsc l) : ∀ k, k ≤ l.length → (((lastTo L l k).2 = true ∧ t ≤ (lastTo L l k).1) ↔ ∃ x, InW (l.take k) x ∧ t ≤ x ∧ x ≤ L)
  | 0, _ => by
    constructor
    · rintro ⟨h, _⟩; cases h
    · rintro ⟨x, ⟨w, hw, _⟩, _⟩; simp at hw
  | k + 1, hk => by
    have hlt : k < l.length := by omega
    have e : rdWindow l (k : Int) = l[k] := by simp [rdWindow, List.getElem?_eq_getElem hlt]
    have hin : ∀ x, InW (l.take (k + 1)) x ↔ InW (l.take k) x ∨ (l[k].From ≤ x ∧ x ≤ l[k].To) := by
      intro x
      rw [List.take_succ_eq_append_getElem hlt]
      constructor
      · rintro ⟨u, hu, h⟩
        rcases List.mem_append.1 hu with hu | hu
        · exact .inl ⟨u, hu, h⟩
        · obtain rfl := List.mem_singleton.1 hu
          exact .inr h
      · rintro (⟨u, hu, h⟩ | h)
        · exact ⟨u, List.mem_append_left _ hu, h⟩
        · exact ⟨_, List.mem_append_right _ (List.mem_singleton.2 rfl), h⟩
    have hlow : ∀ x, InW (l.take k) x → x < l[k].From := by
      rintro x ⟨u, hu, h⟩
      obtain ⟨i, hi, rfl⟩ := List.mem_iff_getElem.1 hu
      have hik : i < k := by simp at hi; omega
      have := (List.pairwise_iff_getElem.1 hs.asc) i k (by omega) hlt hik
      simp only [List.getElem_take] at h
      omega
    have h0 := hs.pos _ (List.getElem_mem hlt)
    unfold lastTo
    rw [e]
    split
    · rename_i ht
      constructor
      · rintro ⟨_, h⟩
        refine ⟨if l[k].To < L then l[k].To else L, (hin _).2 (.inr ?_), h, ?_⟩ <;> split <;> omega
      · rintro ⟨x, hx, a, b⟩
        refine ⟨rfl, ?_⟩
        rcases (hin x).1 hx with hx | ⟨c, d⟩
        · have := hlow x hx
          simp only; split <;> omega
        · simp only; split <;> omega
    · rename_i ht
      rw [lastTo_iff t L l hs k (by omega)]
      constructor
      · rintro ⟨x, hx, h⟩
        exact ⟨x, (hin x).2 (.inl hx), h⟩
      · rintro ⟨x, hx, h⟩
        rcases (hin x).1 hx with hx | ⟨c, d⟩
        · exact ⟨x, hx, h⟩
        · omega
theorem start_last {l : List TWindow} (hs : WinOk l) (t L : Int) : ((startS t l).2 = true ∧ (startS t l).1 ≤ L) ↔ ((lastS L l).2 = true ∧ t ≤ (lastS L l).1) := by
  rw [startS_iff t L l hs.sorted]
  unfold lastS
  rw [lastTo_iff t L l hs.sorted l.length (Nat.le_refl _), List.take_length]
theorem lastS_le {l : List TWindow} (hs : WinOk l) {L : Int} (h : (lastS L l).2 = true) : (lastS L l).1 ≤ L ∧ (lastS L l).1 ≤ 1000000 ∧ 0 ≤ (lastS L l).1 := by
  have key : ∀ k, k ≤ l.length → (lastTo L l k).2 = true → (lastTo L l k).1 ≤ L ∧ (lastTo L l k).1 ≤ 1000000 ∧ 0 ≤ (lastTo L l k).1 := by
    intro k
    induction k with
    | zero => intro _ h; cases h
    | succ k ih =>
      intro hk h
      have hlt : k < l.length := by omega
      have e : rdWindow l (k : Int) = l[k] := by simp [rdWindow, List.getElem?_eq_getElem hlt]
      have hp := hs.pos k hlt
      unfold lastTo at h ⊢
      rw [e] at h ⊢
      split
      · simp only; split <;> omega
      · rename_i hn
        rw [if_neg hn] at h
        exact ih (by omega) h
  exact key _ (Nat.le_refl _) h
theorem startS_mono {l : List TWindow} (hs : WinOk l) {t u : Int} (htu : t ≤ u) (h : (startS u l).2 = true) : (startS t l).2 = true ∧ (startS t l).1 ≤ (startS u l).1 := by
  obtain ⟨x, a, b, c⟩ := (startS_iff u (startS u l).1 l hs.sorted).1 ⟨h, Int.le_refl _⟩
  exact (startS_iff t (startS u l).1 l hs.sorted).2 ⟨x, a, by omega, c⟩
/-! ### steps of a plan -/
/-- Where a step's visit is: breaks as the vehicle's. -/
def stopE (p : TProblem) (v : TVehicle) (x : TVisit) : TStop × Bool := if x.Kind = 4 then (⟨0, (rdBreak v.Breaks x.Item).Service, (rdBreak v.Breaks x.Item).Windows⟩, true) else stopS p x
structure StopW (s : TStop) : Prop where
  win : WinOk s.Windows
  ser : 0 ≤ s.Service ∧ s.Service ≤ 1000000
/-- Steps that are come to at their Arrivals, one left the place at_ at t, and all is in time. -/
def Chain (p : TProblem) (v : TVehicle) : Int → Int → List TStep → Prop
  | _, _, [] => False
  | t, at_, a :: r => a.Arrival = t + cellS p.Time at_ a.Place ∧ (match r with
    | [] => a.Arrival ≤ v.Shift.To
    | _ :: _ => (stopE p v a.Visit).2 = true ∧ (a.Visit.Kind = 4 → 0 ≤ a.Visit.Item ∧ a.Visit.Item < v.Breaks.length) ∧ StopW (stopE p v a.Visit).1 ∧ (startS a.Arrival (stopE p v a.Visit).1.Windows).2 = true ∧
        Chain p v ((startS a.Arrival (stopE p v a.Visit).1.Windows).1 + (stopE p v a.Visit).1.Service) a.Place r)
def lateS (p : TProblem) (v : TVehicle) : List TStep → List Int
  | [] => []
  | [_] => [v.Shift.To]
  | a :: b :: r => (lastS ((lateS p v (b :: r)).headD 0 - cellS p.Time a.Place b.Place - (stopE p v a.Visit).1.Service) (stopE p v a.Visit).1.Windows).1 :: lateS p v (b :: r)
/-- The latest times of a plan's steps. -/
def latestS (p : TProblem) (v : TVehicle) : List TStep → List Int
  | [] => []
  | [_] => []
  | a :: b :: r => ((lateS p v (b :: r)).headD 0 - cellS p.Time a.Place b.Place) :: lateS p v (b :: r)
/-- As early as may be, from a step on that is come to at t. -/
def goR (p : TProblem) (v : TVehicle) : List TStep → Int → Option Int
  | [], t => some t
  | [_], t => some t
  | a :: b :: r, t => if (stopE p v a.Visit).2 = true then
      (if (startS t (stopE p v a.Visit).1.Windows).2 = true then goR p v (b :: r) ((startS t (stopE p v a.Visit).1.Windows).1 + (stopE p v a.Visit).1.Service + cellS p.Time a.Place b.Place) else none)
    else goR p v (b :: r) (t + cellS p.Time a.Place b.Place)
def endsS (p : TProblem) (v : TVehicle) (steps : List TStep) (t : Int) : Int × Bool := match goR p v steps t with
  | none => (0, false)
  | some e => (e, decide (e ≤ v.Shift.To))
def goQ (p : TProblem) (v : TVehicle) : List TStep → Int → Int
  | [], t => t
  | [_], t => t
  | a :: b :: r, t => goQ p v (b :: r) ((startS t (stopE p v a.Visit).1.Windows).1 + (stopE p v a.Visit).1.Service + cellS p.Time a.Place b.Place)
theorem lateS_length (p : TProblem) (v : TVehicle) : ∀ l : List TStep, (lateS p v l).length = l.length
  | [] => rfl
  | [_] => rfl
  | a :: b :: r => by
    rw [lateS, List.length_cons, lateS_length p v (b :: r)]
    rfl
theorem latestS_length (p : TProblem) (v : TVehicle) (a b : TStep) (r : List TStep) : (latestS p v (a :: b :: r)).length = r.length + 2 := by
  rw [latestS, List.length_cons, lateS_length]
  rfl
theorem Chain.late {p : TProblem} {v : TVehicle} : ∀ (r : List TStep) (a : TStep) (t0 at_ : Int), Chain p v t0 at_ (a :: r) →
    a.Arrival ≤ (lateS p v (a :: r)).headD 0 ∧ (∀ t, (∃ e, goR p v (a :: r) t = some e ∧ e ≤ v.Shift.To) ↔ t ≤ (lateS p v (a :: r)).headD 0) ∧ (r ≠ [] → (lateS p v (a :: r)).headD 0 ≤ 1000000 ∧ 0 ≤ (lateS p v (a :: r)).headD 0)
  | [], a, t0, at_, h => by
    refine ⟨h.2, fun t => ?_, fun h => absurd rfl h⟩
    show (∃ e, some t = some e ∧ e ≤ v.Shift.To) ↔ t ≤ v.Shift.To
    constructor
    · rintro ⟨e, he, h⟩
      cases he
      exact h
    · exact fun h => ⟨t, rfl, h⟩
  | b :: r, a, t0, at_, h => by
    obtain ⟨h1, h2, h2', h3, h4, h5⟩ := h
    obtain ⟨i1, i2, -⟩ := Chain.late r b _ _ h5
    have hb : b.Arrival = (startS a.Arrival (stopE p v a.Visit).1.Windows).1 + (stopE p v a.Visit).1.Service + cellS p.Time a.Place b.Place := h5.1
    have hg := (start_last h3.win a.Arrival ((lateS p v (b :: r)).headD 0 - cellS p.Time a.Place b.Place - (stopE p v a.Visit).1.Service)).1 ⟨h4, by omega⟩
    have el : (lateS p v (a :: b :: r)).headD 0 = (lastS ((lateS p v (b :: r)).headD 0 - cellS p.Time a.Place b.Place - (stopE p v a.Visit).1.Service) (stopE p v a.Visit).1.Windows).1 := rfl
    rw [el]
    refine ⟨hg.2, fun t => ?_, fun _ => (lastS_le h3.win hg.1).2⟩
    have hgt := start_last h3.win t ((lateS p v (b :: r)).headD 0 - cellS p.Time a.Place b.Place - (stopE p v a.Visit).1.Service)
    rw [goR, if_pos h2]
    constructor
    · rintro ⟨e, he, hle⟩
      split at he
      · rename_i hs
        have := (i2 _).1 ⟨e, he, hle⟩
        exact (hgt.1 ⟨hs, by omega⟩).2
      · cases he
    · intro ht
      have hs := hgt.2 ⟨hg.1, ht⟩
      rw [if_pos hs.1]
      exact (i2 _).2 (by omega)
/-- All in time: the program's way and the document's are one. -/
theorem Chain.same {p : TProblem} {v : TVehicle} : ∀ (r : List TStep) (a : TStep) (t0 at_ : Int), Chain p v t0 at_ (a :: r) → ∀ t, t ≤ (lateS p v (a :: r)).headD 0 → goR p v (a :: r) t = some (goQ p v (a :: r) t) ∧ goQ p v (a :: r) t ≤ v.Shift.To
  | [], a, t0, at_, h, t, ht => ⟨rfl, ht⟩
  | b :: r, a, t0, at_, h, t, ht => by
    obtain ⟨e, he, hle⟩ := ((h.late (b :: r) a t0 at_).2.1 t).2 ht
    obtain ⟨h1, h2, h2', h3, h4, h5⟩ := h
    have he' := he
    rw [goR, if_pos h2] at he'
    split at he'
    · rename_i hs
      have hlb := ((Chain.late r b _ _ h5).2.1 _).1 ⟨e, he', hle⟩
      have hi := Chain.same r b _ _ h5 _ hlb
      rw [goR, if_pos h2, if_pos hs]
      exact hi
    · cases he'
theorem goQ_arrival {p : TProblem} {v : TVehicle} : ∀ (r : List TStep) (a : TStep) (t0 at_ : Int), Chain p v t0 at_ (a :: r) → goQ p v (a :: r) a.Arrival = ((a :: r).getLast (by simp)).Arrival
  | [], a, t0, at_, h => rfl
  | b :: r, a, t0, at_, h => by
    obtain ⟨h1, h2, h2', h3, h4, h5⟩ := h
    rw [goQ, ← show b.Arrival = _ from h5.1, goQ_arrival r b _ _ h5]
    rfl
theorem goQ_mono {p : TProblem} {v : TVehicle} : ∀ (r : List TStep) (a : TStep) (t0 at_ : Int), Chain p v t0 at_ (a :: r) → ∀ t u, t ≤ u → u ≤ (lateS p v (a :: r)).headD 0 → goQ p v (a :: r) t ≤ goQ p v (a :: r) u
  | [], a, t0, at_, h, t, u, htu, hu => htu
  | b :: r, a, t0, at_, h, t, u, htu, hu => by
    obtain ⟨e, he, hle⟩ := ((h.late (b :: r) a t0 at_).2.1 u).2 hu
    obtain ⟨h1, h2, h2', h3, h4, h5⟩ := h
    rw [goR, if_pos h2] at he
    split at he
    · rename_i hs
      have hlb := ((Chain.late r b _ _ h5).2.1 _).1 ⟨e, he, hle⟩
      have hm := startS_mono h3.win htu hs
      rw [goQ, goQ]
      exact goQ_mono r b _ _ h5 _ _ (by omega) hlb
    · cases he
theorem Chain.tail {p : TProblem} {v : TVehicle} {a b : TStep} {r : List TStep} {t0 at_ : Int} (h : Chain p v t0 at_ (a :: b :: r)) : ∃ t1 at1, Chain p v t1 at1 (b :: r) := ⟨_, _, h.2.2.2.2.2⟩
theorem Chain.drop {p : TProblem} {v : TVehicle} : ∀ (k : Nat) (l : List TStep) (t0 at_ : Int), Chain p v t0 at_ l → k < l.length → ∃ t1 at1, Chain p v t1 at1 (l.drop k)
  | 0, l, t0, at_, h, _ => ⟨t0, at_, h⟩
  | k + 1, [], _, _, h, _ => h.elim
  | k + 1, [a], _, _, h, hk => by simp at hk
  | k + 1, a :: b :: r, _, _, h, hk => by
    obtain ⟨t1, at1, h1⟩ := h.tail
    exact Chain.drop k (b :: r) t1 at1 h1 (by simpa using hk)
theorem lateS_drop (p : TProblem) (v : TVehicle) : ∀ (k : Nat) (l : List TStep), lateS p v (l.drop k) = (lateS p v l).drop k
  | 0, l => rfl
  | k + 1, [] => rfl
  | k + 1, [a] => by simp [lateS]
  | k + 1, a :: b :: r => by
    rw [lateS]
    exact lateS_drop p v k (b :: r)
theorem lateS_last (p : TProblem) (v : TVehicle) : ∀ (l : List TStep) (d : Int), l ≠ [] → (lateS p v l).getLastD d = v.Shift.To
  | [], _, h => absurd rfl h
  | [a], _, _ => rfl
  | a :: b :: r, d, _ => by
    rw [lateS, List.getLastD_cons]
    exact lateS_last p v (b :: r) _ (by simp)
/-! ### a plan that was made -/
theorem stopE_at {p : TProblem} {v : TVehicle} {at_ : Int} {x : TVisit} (h : (stopS p x).2 = false → x.Kind = 4) : (stopE p v x).2 = true ∧ (stopE p v x).1.Windows = (stopAt p v at_ x).Windows ∧ (stopE p v x).1.Service = (stopAt p v at_ x).Service := by
  unfold stopE stopAt
  cases hs : (stopS p x).2 with
  | true =>
    have h4 : x.Kind ≠ 4 := fun e => by
      have : taskOf x = (⟨false, 0⟩, false) := taskOf_none (by omega) (by omega) (by omega)
      simp [stopS, this] at hs
    rw [if_neg h4, if_pos rfl]
    exact ⟨hs, rfl, rfl⟩
  | false =>
    rw [if_pos (h hs), if_neg (by decide)]
    exact ⟨rfl, rfl, rfl⟩
theorem Chain.mk_ {p : TProblem} {v : TVehicle} {t at_ : Int} {a : TStep} : ∀ {r : List TStep}, r ≠ [] → a.Arrival = t + cellS p.Time at_ a.Place → ((stopE p v a.Visit).2 = true ∧ (a.Visit.Kind = 4 → 0 ≤ a.Visit.Item ∧ a.Visit.Item < v.Breaks.length) ∧ StopW (stopE p v a.Visit).1 ∧ (startS a.Arrival (stopE p v a.Visit).1.Windows).2 = true ∧
        Chain p v ((startS a.Arrival (stopE p v a.Visit).1.Windows).1 + (stopE p v a.Visit).1.Service) a.Place r) → Chain p v t at_ (a :: r)
  | [], h, _, _ => absurd rfl h
  | _ :: _, _, h1, h2 => ⟨h1, h2⟩
/-- What is asked of the visits of a plan. -/
structure VisOk (p : TProblem) (v : TVehicle) (x : TVisit) : Prop where
  brk : (stopS p x).2 = false → x.Kind = 4
  num : x.Kind = 4 → 0 ≤ x.Item ∧ x.Item < v.Breaks.length
  win : ∀ at_, StopW (stopAt p v at_ x)
theorem goS_chain (p : TProblem) (v : TVehicle) (ls : List (List Int)) : ∀ (l : List TVisit) (i : Nat) (s s' : TS), (∀ x ∈ l, VisOk p v x) → goS p v ls l i s = some s' →
    ∃ tail, s'.steps = s.steps ++ tail ∧ (tail.map (·.Visit)) = l ∧ ∀ e : TStep, e.Arrival = s'.leave + cellS p.Time s'.at_ e.Place → e.Arrival ≤ v.Shift.To → Chain p v s.leave s.at_ (tail ++ [e])
  | [], i, s, s', hv, h => by
    cases h
    exact ⟨[], by simp, rfl, fun e h1 h2 => ⟨h1, h2⟩⟩
  | x :: l, i, s, s', hv, h => by
    rw [goS] at h
    split at h
    · rename_i hs
      have hx := hv x List.mem_cons_self
      obtain ⟨tail, e1, e2, e3⟩ := goS_chain p v ls l (i + 1) _ s' (fun y hy => hv y (List.mem_cons_of_mem _ hy)) h
      obtain ⟨s1, s2, s3⟩ := stopE_at (v := v) (at_ := s.at_) hx.brk
      refine ⟨⟨x, (stopAt p v s.at_ x).Place, comeS p v x s, beginS p v x s - comeS p v x s, (stopAt p v s.at_ x).Service, ls.getD (i + 1) [], s.tm + cellS p.Time s.at_ (stopAt p v s.at_ x).Place, s.di + cellS p.Dist s.at_ (stopAt p v s.at_ x).Place⟩ :: tail, ?_, by rw [List.map_cons, e2], fun e h1 h2 => ?_⟩
      · rw [e1]
        simp [nextS]
      · have hc := e3 e h1 h2
        have hw := hx.win s.at_
        have key : (stopE p v x).2 = true ∧ (x.Kind = 4 → 0 ≤ x.Item ∧ x.Item < v.Breaks.length) ∧ StopW (stopE p v x).1 ∧ (startS (comeS p v x s) (stopE p v x).1.Windows).2 = true ∧
            Chain p v ((startS (comeS p v x s) (stopE p v x).1.Windows).1 + (stopE p v x).1.Service) (stopAt p v s.at_ x).Place (tail ++ [e]) := by
          refine ⟨s1, hx.num, ⟨s2 ▸ hw.win, s3 ▸ hw.ser⟩, by rw [s2]; exact hs, ?_⟩
          rw [s2, s3]
          exact hc
        exact Chain.mk_ (by simp) rfl key
    · cases h
/-- The steps of a plan that was made. -/
structure Made (p : TProblem) (v : TVehicle) (x : TPlan) : Prop where
  steps : ∃ s0 r, x.Steps = s0 :: r ∧ s0.Visit = ⟨5, 0⟩ ∧ s0.Arrival = v.Shift.From ∧ Chain p v s0.Arrival s0.Place r
theorem Made.len {p : TProblem} {v : TVehicle} {x : TPlan} (h : Made p v x) : 2 ≤ x.Steps.length := by
  obtain ⟨s0, r, e, _, _, hc⟩ := h
  rw [e]
  cases r with
  | nil => exact hc.elim
  | cons a r => simp
theorem stopE_five (p : TProblem) (v : TVehicle) : (stopE p v ⟨5, 0⟩).2 = false := by
  have : taskOf ⟨5, 0⟩ = (⟨false, 0⟩, false) := taskOf_none (by decide) (by decide) (by decide)
  unfold stopE
  rw [if_neg (by decide)]
  simp [stopS, this]
/-- The program's Ends. -/
def endsP (p : TProblem) (v : TVehicle) (steps : List TStep) (i t : Int) : Int × Bool :=
  if i < 0 ∨ ((latestS p v steps).length : Int) ≤ i ∨ (latestS p v steps).getD i.toNat 0 < t then (0, false) else
  if i = 0 then (match steps with
    | a :: b :: r => (goQ p v (b :: r) (t + cellS p.Time a.Place b.Place), true)
    | _ => (t, true))
  else (goQ p v (steps.drop i.toNat) t, true)
theorem Made.latest_len {p : TProblem} {v : TVehicle} {x : TPlan} (h : Made p v x) : (latestS p v x.Steps).length = x.Steps.length := by
  obtain ⟨s0, r, e, _, _, hc⟩ := h
  rw [e]
  cases r with
  | nil => exact hc.elim
  | cons a r => rw [latestS_length]; rfl
theorem Made.key {p : TProblem} {v : TVehicle} {x : TPlan} (h : Made p v x) (i : Nat) (hi : i < x.Steps.length) :
    (∀ t, (endsS p v (x.Steps.drop i) t).2 = true ↔ t ≤ (latestS p v x.Steps).getD i 0) ∧ (∀ t, t ≤ (latestS p v x.Steps).getD i 0 → endsP p v x.Steps i t = endsS p v (x.Steps.drop i) t) ∧ (x.Steps.getD i zStep).Arrival ≤ (latestS p v x.Steps).getD i 0 ∧
      endsP p v x.Steps i (x.Steps.getD i zStep).Arrival = ((x.Steps.getLastD zStep).Arrival, true) ∧ (∀ t u, t ≤ u → u ≤ (latestS p v x.Steps).getD i 0 → (endsP p v x.Steps i t).1 ≤ (endsP p v x.Steps i u).1) := by
  have hlen := h.latest_len
  obtain ⟨s0, r, e, h5, h0, hc⟩ := h
  rw [e] at hlen hi ⊢
  cases r with
  | nil => exact hc.elim
  | cons a r =>
    have hp : ∀ (t : Int), t ≤ (latestS p v (s0 :: a :: r)).getD i 0 → endsP p v (s0 :: a :: r) i t = if i = 0 then (goQ p v (a :: r) (t + cellS p.Time s0.Place a.Place), true) else (goQ p v ((s0 :: a :: r).drop i) t, true) := by
      intro t ht
      unfold endsP
      rw [if_neg (by rintro (h | h | h); omega; rw [hlen] at h; omega; simp only [Int.toNat_natCast] at h; omega)]
      simp only [Int.toNat_natCast, Int.natCast_eq_zero]
    cases i with
    | zero =>
      obtain ⟨i1, i2, -⟩ := hc.late r a _ _
      have el : (latestS p v (s0 :: a :: r)).getD 0 0 = (lateS p v (a :: r)).headD 0 - cellS p.Time s0.Place a.Place := rfl
      have ed : ∀ t, goR p v ((s0 :: a :: r).drop 0) t = goR p v (a :: r) (t + cellS p.Time s0.Place a.Place) := fun t => by
        rw [List.drop_zero, goR, h5, stopE_five, if_neg (by decide)]
      have ha := hc.1
      rw [el] at hp ⊢
      have hends : ∀ t, (endsS p v ((s0 :: a :: r).drop 0) t).2 = true ↔ ∃ e, goR p v (a :: r) (t + cellS p.Time s0.Place a.Place) = some e ∧ e ≤ v.Shift.To := fun t => by
        unfold endsS
        rw [ed t]
        cases goR p v (a :: r) (t + cellS p.Time s0.Place a.Place) <;> simp
      refine ⟨fun t => ?_, fun t ht => ?_, ?_, ?_, fun t u htu hu => ?_⟩
      · rw [hends t, i2]
        omega
      · obtain ⟨j1, j2⟩ := hc.same r a _ _ (t + cellS p.Time s0.Place a.Place) (by omega)
        rw [hp t ht, if_pos rfl]
        unfold endsS
        rw [ed t, j1]
        simp [j2]
      · show s0.Arrival ≤ _
        omega
      · show endsP p v (s0 :: a :: r) (0 : Nat) s0.Arrival = _
        rw [hp _ (by omega), if_pos rfl, ← ha, goQ_arrival r a _ _ hc]
        rfl
      · rw [hp t (by omega), hp u hu, if_pos rfl, if_pos rfl]
        exact goQ_mono r a _ _ hc _ _ (by omega) (by omega)
    | succ k =>
      have hk : k < (a :: r).length := by simpa using hi
      obtain ⟨t1, at1, hd⟩ := hc.drop k (a :: r) _ _ hk
      have edr : (s0 :: a :: r).drop (k + 1) = (a :: r).drop k := rfl
      obtain ⟨b, r', eb⟩ : ∃ b r', (a :: r).drop k = b :: r' := by
        cases hx : (a :: r).drop k with
        | nil => rw [hx] at hd; exact hd.elim
        | cons b r' => exact ⟨b, r', rfl⟩
      have el : (latestS p v (s0 :: a :: r)).getD (k + 1) 0 = (lateS p v (b :: r')).headD 0 := by
        rw [← eb, lateS_drop]
        show (lateS p v (a :: r)).getD k 0 = _
        rw [List.getD_eq_getElem?_getD, List.headD_eq_head?_getD, List.head?_drop]
      have eg : (s0 :: a :: r).getD (k + 1) zStep = b := by
        have h' : ((a :: r).drop k)[0]? = some b := by rw [eb]; rfl
        rw [List.getElem?_drop] at h'
        rw [List.getD_eq_getElem?_getD, List.getElem?_cons_succ]
        simp only [Nat.add_zero] at h'
        rw [h']
        rfl
      have elast : (s0 :: a :: r).getLastD zStep = (b :: r').getLast (by simp) := by
        have h1 : (s0 :: a :: r) = (s0 :: (a :: r).take k) ++ (b :: r') := by rw [← eb, List.cons_append, List.take_append_drop]
        rw [h1, List.getLastD_eq_getLast?, List.getLast?_append, List.getLast?_eq_some_getLast (by simp)]
        rfl
      rw [el] at hp ⊢
      rw [edr, eb] at hp ⊢
      rw [eb] at hd
      obtain ⟨i1, i2, -⟩ := hd.late r' b _ _
      rw [eg, elast]
      refine ⟨fun t => ?_, fun t ht => ?_, i1, ?_, fun t u htu hu => ?_⟩
      · rw [← i2]
        unfold endsS
        cases goR p v (b :: r') t <;> simp
      · obtain ⟨j1, j2⟩ := hd.same r' b _ _ t ht
        rw [hp t ht, if_neg (by omega)]
        unfold endsS
        rw [j1]
        simp [j2]
      · rw [hp _ i1, if_neg (by omega), goQ_arrival r' b _ _ hd]
      · rw [hp t (by omega), hp u hu, if_neg (by omega), if_neg (by omega)]
        exact goQ_mono r' b _ _ hd _ _ htu hu
/-! ### a shift that ends later -/
def lateVeh (v : TVehicle) (by_ : Int) : TVehicle := { v with Shift := ⟨v.Shift.From, v.Shift.To + by_⟩ }
theorem stopE_late (p p' : TProblem) (v : TVehicle) (by_ : Int) (x : TVisit) (hj : p'.Jobs = p.Jobs) (hs : p'.Shipments = p.Shipments) : stopE p' (lateVeh v by_) x = stopE p v x := by
  unfold stopE stopS thereB lateVeh
  rw [hj, hs]
theorem Chain.later {p p' : TProblem} {v : TVehicle} {by_ : Int} (h0 : 0 ≤ by_) (hj : p'.Jobs = p.Jobs) (hs : p'.Shipments = p.Shipments) (ht : p'.Time = p.Time) : ∀ (l : List TStep) (t at_ : Int), Chain p v t at_ l → Chain p' (lateVeh v by_) t at_ l
  | [], _, _, h => h.elim
  | [a], t, at_, h => ⟨ht ▸ h.1, by have := h.2; simp only at this; simp only [lateVeh]; omega⟩
  | a :: b :: r, t, at_, h => by
    obtain ⟨h1, h2, h3, h4, h5, h6⟩ := h
    refine ⟨ht ▸ h1, ?_⟩
    simp only [stopE_late p p' v by_ a.Visit hj hs]
    exact ⟨h2, h3, h4, h5, Chain.later h0 hj hs ht (b :: r) _ _ h6⟩
theorem goR_late {p p' : TProblem} {v : TVehicle} {by_ : Int} (hj : p'.Jobs = p.Jobs) (hs : p'.Shipments = p.Shipments) (ht : p'.Time = p.Time) : ∀ (l : List TStep) (t : Int), goR p' (lateVeh v by_) l t = goR p v l t
  | [], _ => rfl
  | [_], _ => rfl
  | a :: b :: r, t => by
    simp only [goR, stopE_late p p' v by_ a.Visit hj hs, ht, goR_late hj hs ht (b :: r)]
theorem Made.later {p p' : TProblem} {v : TVehicle} {by_ : Int} {x : TPlan} (h0 : 0 ≤ by_) (hj : p'.Jobs = p.Jobs) (hs : p'.Shipments = p.Shipments) (ht : p'.Time = p.Time) (h : Made p v x) : Made p' (lateVeh v by_) x := by
  obtain ⟨s0, r, e, h5, hf, hc⟩ := h
  exact ⟨s0, r, e, h5, hf, hc.later h0 hj hs ht⟩
theorem Made.shift {p p' : TProblem} {v : TVehicle} {by_ : Int} {x : TPlan} (h0 : 0 ≤ by_) (hj : p'.Jobs = p.Jobs) (hs : p'.Shipments = p.Shipments) (ht : p'.Time = p.Time) (h : Made p v x) (i : Nat) (hi : i < x.Steps.length) :
    (latestS p v x.Steps).getD i 0 ≤ (latestS p' (lateVeh v by_) x.Steps).getD i 0 := by
  have h1 := ((h.key i hi).1 _).2 (Int.le_refl _)
  refine (((h.later h0 hj hs ht).key i hi).1 _).1 ?_
  unfold endsS at h1 ⊢
  rw [goR_late hj hs ht]
  cases hg : goR p v (x.Steps.drop i) ((latestS p v x.Steps).getD i 0) with
  | none => rw [hg] at h1; cases h1
  | some e =>
    rw [hg] at h1
    simp only [decide_eq_true_eq] at h1 ⊢
    simp only [lateVeh]
    omega
theorem Made.last {p : TProblem} {v : TVehicle} {x : TPlan} (h : Made p v x) : (latestS p v x.Steps).getLastD 0 = v.Shift.To := by
  obtain ⟨s0, r, e, h5, hf, hc⟩ := h
  rw [e]
  cases r with
  | nil => exact hc.elim
  | cons a r =>
    rw [latestS, List.getLastD_cons]
    exact lateS_last p v (a :: r) _ (by simp)
/-! ### what Of makes is such a plan -/
theorem made_of {p : TProblem} {vehicle : Int} {l : List TVisit} (law : Law p) (h : (ofS p vehicle l).2 = 0) :
    0 ≤ vehicle ∧ vehicle < p.Vehicles.length ∧ (ofS p vehicle l).1.Vehicle = vehicle ∧ Made p (rdVehicle p.Vehicles vehicle) (ofS p vehicle l).1 ∧ (ofS p vehicle l).1.Steps.length = l.length + 2 := by
  unfold ofS at h ⊢
  split at h
  · cases h
  rename_i hv
  have hv0 : 0 ≤ vehicle := Int.not_lt.1 (fun e => hv (.inl e))
  have hv1 : vehicle < p.Vehicles.length := Int.not_le.1 (fun e => hv (.inr e))
  rw [if_neg hv]
  have VOK := law.veh _ (rdVeh_mem p.Vehicles vehicle hv0 hv1)
  generalize rdVehicle p.Vehicles vehicle = v at *
  split at h
  · rename_i hf
    exact absurd h hf
  rename_i hf
  rw [if_neg hf]
  have FOK := firstOk_of (Classical.not_not.1 hf)
  cases hg : goS p v (loadsS p l) l 0 (beginTS v (loadsS p l)) with
  | none =>
    rw [hg] at h
    cases h
  | some s =>
    rw [hg] at h
    simp only [runS, endS] at h ⊢
    split at h
    · cases h
    rename_i hle
    rw [if_neg hle]
    obtain ⟨tail, e1, e2, e3⟩ := goS_chain p v (loadsS p l) l 0 _ s (fun x hx => ⟨fun hs => (FOK.brk x hx hs).1, fun h4 => by
      have hs : (stopS p x).2 = false := by
        have : taskOf x = (⟨false, 0⟩, false) := taskOf_none (by omega) (by omega) (by omega)
        simp [stopS, this]
      exact (FOK.brk x hx hs).2, fun at_ => by
      obtain ⟨a, b⟩ := stopAt_ok law VOK FOK at_ x hx
      exact ⟨winOk_of a, b⟩⟩) hg
    refine ⟨hv0, hv1, rfl, ⟨⟨⟨⟨5, 0⟩, v.Start, v.Shift.From, 0, 0, (loadsS p l).getD 0 [], 0, 0⟩, tail ++ [⟨⟨6, 0⟩, v.End, s.leave + cellS p.Time s.at_ v.End, 0, 0, (loadsS p l).getD l.length [], s.tm + cellS p.Time s.at_ v.End, s.di + cellS p.Dist s.at_ v.End⟩], ?_, rfl, rfl, ?_⟩⟩, ?_⟩
    · simp only [e1, beginTS, List.cons_append, List.nil_append]
    · exact e3 _ rfl (Int.not_lt.1 hle)
    · simp only [e1, beginTS, List.length_append, List.length_cons, List.length_nil]
      have : tail.length = l.length := by rw [← e2, List.length_map]
      omega
/-! ### Set and Fit, in plain words -/
def brkS (at_ : List Int) (i : Int) : Nat → List TVisit
  | 0 => []
  | k + 1 => brkS at_ i k ++ (if rd at_ k = i then [⟨4, k⟩] else [])
def setTo (l : List TVisit) (at_ : List Int) : Nat → List TVisit
  | 0 => []
  | i + 1 => setTo l at_ i ++ brkS at_ i at_.length ++ (if i < l.length then [rdVisit l i] else [])
def setS (l : List TVisit) (at_ : List Int) : List TVisit := setTo l at_ (l.length + 1)
theorem brkS_len (at_ : List Int) (i : Int) : ∀ k, (brkS at_ i k).length ≤ k
  | 0 => Nat.le_refl _
  | k + 1 => by
    have := brkS_len at_ i k
    rw [brkS, List.length_append]
    split <;> simp <;> omega
theorem setTo_len (l : List TVisit) (at_ : List Int) : ∀ i, (setTo l at_ i).length ≤ i * (at_.length + 1)
  | 0 => by simp [setTo]
  | i + 1 => by
    have := setTo_len l at_ i
    have := brkS_len at_ i at_.length
    rw [setTo, List.length_append, List.length_append, Nat.add_mul]
    split <;> simp <;> omega
/-- The places of breaks that Fit tries, from the i-th, k-th on. -/
def tryS (p : TProblem) (vehicle : Int) (l : List TVisit) (n : Nat) : List (Nat × Nat) → TPlan × Int
  | [] => (zPlan, 167)
  | (i, k) :: r => if (ofS p vehicle (setS l (([(i : Int), (k : Int)] : List Int).take n))).2 = 167 then tryS p vehicle l n r else ofS p vehicle (setS l (([(i : Int), (k : Int)] : List Int).take n))
/-- From k on in the i-th row, to m. -/
def rowPairs (i : Nat) (m k : Nat) : List (Nat × Nat) := (List.range' k (m + 1 - k)).map (fun j => (i, j))
def pairsFrom (n m : Nat) (i : Nat) : List (Nat × Nat) := (List.range' i (m + 1 - i)).flatMap (fun i => if n = 1 then [(i, i)] else rowPairs i m i)
def fitS (p : TProblem) (vehicle : Int) (l : List TVisit) : TPlan × Int :=
  if vehicle < 0 ∨ (p.Vehicles.length : Int) ≤ vehicle then (zPlan, 160) else
  if l.any (fun x => decide (x.Kind = 4)) then (zPlan, 162) else
  if (rdVehicle p.Vehicles vehicle).Breaks.length = 0 then ofS p vehicle l else
  tryS p vehicle l (rdVehicle p.Vehicles vehicle).Breaks.length (pairsFrom (rdVehicle p.Vehicles vehicle).Breaks.length l.length 0)
theorem rowPairs_at (i m k : Nat) (h : k ≤ m) : rowPairs i m k = (i, k) :: rowPairs i m (k + 1) := by
  unfold rowPairs
  rw [show m + 1 - k = (m + 1 - (k + 1)) + 1 by omega, List.range'_succ, List.map_cons]
theorem rowPairs_end (i m : Nat) : rowPairs i m (m + 1) = [] := by simp [rowPairs]
theorem pairsFrom_at (n m i : Nat) (h : i ≤ m) : pairsFrom n m i = (if n = 1 then [(i, i)] else rowPairs i m i) ++ pairsFrom n m (i + 1) := by
  unfold pairsFrom
  rw [show m + 1 - i = (m + 1 - (i + 1)) + 1 by omega, List.range'_succ, List.flatMap_cons]
theorem pairsFrom_end (n m : Nat) : pairsFrom n m (m + 1) = [] := by simp [pairsFrom]
theorem tryS_of {p : TProblem} {vehicle : Int} {l : List TVisit} {n : Nat} : ∀ {r : List (Nat × Nat)}, (tryS p vehicle l n r).2 = 0 → ∃ at_ : List Int, at_.length ≤ n ∧ tryS p vehicle l n r = ofS p vehicle (setS l at_)
  | [], h => by cases h
  | (i, k) :: r, h => by
    unfold tryS at h ⊢
    split
    · rename_i hs
      rw [if_pos hs] at h
      exact tryS_of h
    · exact ⟨_, by simp; omega, rfl⟩
theorem fit_of {p : TProblem} {vehicle : Int} {l : List TVisit} (h : (fitS p vehicle l).2 = 0) : ∃ l' : List TVisit, fitS p vehicle l = ofS p vehicle l' ∧ ((rdVehicle p.Vehicles vehicle).Breaks.length ≤ 2 → l'.length ≤ (l.length + 1) * 3) := by
  unfold fitS at h ⊢
  split at h
  · cases h
  rename_i hv
  rw [if_neg hv]
  split at h
  · cases h
  rename_i hk
  rw [if_neg hk]
  split at h
  · rename_i h0
    rw [if_pos h0]
    exact ⟨l, rfl, fun _ => by omega⟩
  · rename_i h0
    rw [if_neg h0]
    obtain ⟨at_, h1, h2⟩ := tryS_of h
    refine ⟨_, h2, fun hn => ?_⟩
    have := setTo_len l at_ (l.length + 1)
    unfold setS
    have h3 : (l.length + 1) * (at_.length + 1) ≤ (l.length + 1) * 3 := Nat.mul_le_mul_left _ (by omega)
    omega
end Go.Proofs.Ytemjpgmfignhnaa
