/- What the printed functions about windows of time answer, in plain words, and the law that stands at the end.
Conditions: those of the law's own row. -/
import Derived.Test.YtoinhkilgijilaaPHoursNearx
import Derived.Test.YtoinhkilgijilaaEvKit
import Derived.Test.YtoinhkilgijilaaKHoursNear
namespace Go.Proofs.Ytoinhkilgijilaa.PHoursNear
open Go.RowKit Go.Proofs.YtoinhkilgijilaaW.PrintWords Go.Proofs.YtoinhkilgijilaaW.PrintLast Go.Proofs.YtoinhkilgijilaaW.PrintMore Go.Proofs.Ytoinhkilgijilaa.EvKit
set_option linter.unusedVariables false
set_option linter.unusedSimpArgs false

/-! ### windows -/
theorem rdW (xs : List S32) (i : Nat) (h : i < xs.length) : rd_T32 xs (i : Int) = xs[i] := by
  simp [rd_T32, List.getElem?_eq_getElem h]
/-- Windows that Check allows: rising, apart, from lo on. -/
def Srt : Int → List S32 → Prop
  | _, [] => True
  | lo, w :: l => lo < w.f0 ∧ w.f0 ≤ w.f1 ∧ w.f1 ≤ 1000000 ∧ Srt w.f1 l
instance Srt.dec : ∀ (lo : Int) (l : List S32), Decidable (Srt lo l)
  | _, [] => isTrue trivial
  | lo, w :: l => by
    unfold Srt
    have := Srt.dec w.f1 l
    exact inferInstance
def okW (l : List S32) : Prop := 1 ≤ l.length ∧ l.length ≤ 4 ∧ Srt (-1) l
theorem Srt.mono {lo lo' : Int} {l : List S32} (h : Srt lo l) (hl : lo' ≤ lo) : Srt lo' l := by
  cases l with
  | nil => trivial
  | cons w l =>
    obtain ⟨h1, h2⟩ := h
    exact ⟨by omega, h2⟩
def startS (t : Int) : List S32 → Int × Bool
  | [] => (0, false)
  | w :: l => if t ≤ w.f1 then (mx t w.f0, true) else startS t l
def lastS (t : Int) : List S32 → Int × Bool
  | [] => (0, false)
  | w :: l => if (lastS t l).2 = true then lastS t l else if t ≥ w.f0 then (mn t w.f1, true) else (0, false)
theorem lastS_cons (t : Int) (w : S32) (l : List S32) : lastS t (w :: l) = if (lastS t l).2 = true then lastS t l else if t ≥ w.f0 then (mn t w.f1, true) else (0, false) := rfl

theorem hours_Start_l0 (t : Int) (xs : List S32) (hn : xs.length ≤ 4611686018427387904) : ∀ (d i : Nat), i + d = xs.length →
    Ev (fun k => hours_Start.l0 k t xs (xs.length : Int) (i : Int)) (startS t (xs.drop i)) := by
  intro d
  induction d with
  | zero =>
    intro i hi
    refine Ev.step (fun _ => rfl) ?_
    simp only [hours_Start.l0]
    refine evNeg (by omega) (evNow ?_)
    rw [List.drop_of_length_le (by omega)]
    rfl
  | succ d ih =>
    intro i hi
    refine Ev.step (fun _ => rfl) ?_
    simp only [hours_Start.l0]
    have hlt : i < xs.length := by omega
    rw [List.drop_eq_getElem_cons hlt, startS]
    refine evPos (by omega) (evPos (by omega) (evPos (by omega) ?_))
    simp only [rdW xs i hlt, wrap_succ hlt hn]
    exact evIte (fun _ => Ev.now _) (fun _ => ih (i + 1) (by omega))
theorem hours_Start_ev (t : Int) (xs : List S32) (hn : xs.length ≤ 4611686018427387904) : Ev (fun k => hours_Start.f k xs t) (startS t xs) := by
  have := hours_Start_l0 t xs hn xs.length 0 (by omega)
  simpa [hours_Start.f] using this

theorem lastS_snoc (t : Int) (w : S32) : ∀ l : List S32, lastS t (l ++ [w]) = if t ≥ w.f0 then (mn t w.f1, true) else lastS t l := by
  intro l
  induction l with
  | nil => by_cases h : t ≥ w.f0 <;> simp [lastS, h]
  | cons x l ih =>
    rw [List.cons_append, lastS_cons, ih]
    by_cases h : t ≥ w.f0
    · simp [h]
    · simp only [h, if_false]
      exact (lastS_cons t x l).symm
theorem hours_Last_l0 (t : Int) (xs : List S32) (hn : xs.length ≤ 4611686018427387904) : ∀ (i : Nat), i ≤ xs.length →
    Ev (fun k => hours_Last.l0 k xs t ((i : Int) - 1)) (lastS t (xs.take i)) := by
  intro i
  induction i with
  | zero =>
    intro hi
    refine Ev.step (fun _ => rfl) ?_
    simp only [hours_Last.l0]
    refine evNeg (by omega) (evNow ?_)
    rfl
  | succ i ih =>
    intro hi
    refine Ev.step (fun _ => rfl) ?_
    simp only [hours_Last.l0]
    have hlt : i < xs.length := by omega
    rw [List.take_succ_eq_append_getElem hlt, lastS_snoc]
    rw [show ((i + 1 : Nat) : Int) - 1 = (i : Int) by omega]
    refine evPos (by omega) (evPos (by omega) (evPos (by omega) ?_))
    simp only [rdW xs i hlt]
    rw [wrap_ok (by omega) (by omega)]
    exact evIte (fun _ => Ev.now _) (fun _ => ih (by omega))
theorem hours_Last_ev (t : Int) (xs : List S32) (hn : xs.length ≤ 4611686018427387904) : Ev (fun k => hours_Last.f k xs t) (lastS t xs) := by
  have := hours_Last_l0 t xs hn xs.length (by omega)
  rw [List.take_length] at this
  unfold hours_Last.f
  rw [wrap_ok (by omega) (by omega)]
  exact this

def inS (t : Int) (l : List S32) : Bool := if (startS t l).2 = true then (startS t l).1 == t else false
theorem hours_In_ev (t : Int) (xs : List S32) (hn : xs.length ≤ 4611686018427387904) : Ev (fun k => hours_In.f k xs t) (inS t xs) := by
  unfold hours_In.f inS
  refine Ev.bind (hours_Start_ev t xs hn) ?_
  by_cases h : (startS t xs).2 = true
  · simp only [h, if_true]
    exact Ev.now _
  · simp only [h]
    exact Ev.now _

/-- What the document's Windows finds from place i on; lo: where the window ahead of it ends. -/
def winS : Int → Int → List S32 → Int × Int
  | _, _, [] => (-1, 0)
  | i, lo, w :: l => if w.f0 < 0 ∨ w.f1 > 1000000 ∨ w.f0 > w.f1 ∨ w.f0 ≤ lo then (i, 2) else winS (i + 1) w.f1 l
def windowsS (l : List S32) : Int × Int := if l.length < 1 ∨ l.length > 4 then (-1, 43) else winS 0 (-1) l
theorem refWindows_l0 (xs : List S32) (hn : xs.length ≤ 4611686018427387904) : ∀ (d i : Nat) (lo : Int), i + d = xs.length → (lo = -1 ∧ i = 0 ∨ ∃ h : 0 < i ∧ i - 1 < xs.length, lo = (xs[i - 1]'h.2).f1) →
    Ev (fun k => haulierref09_Windows.l0 k xs (i : Int)) (winS i lo (xs.drop i)) := by
  intro d
  induction d with
  | zero =>
    intro i lo hi hlo
    refine Ev.step (fun _ => rfl) ?_
    simp only [haulierref09_Windows.l0]
    refine evNeg (by omega) (evNow ?_)
    rw [List.drop_of_length_le (by omega)]
    rfl
  | succ d ih =>
    intro i lo hi hlo
    have hlt : i < xs.length := by omega
    have next := ih (i + 1) xs[i].f1 (by omega) (.inr ⟨⟨by omega, by omega⟩, by simp⟩)
    rw [List.drop_eq_getElem_cons hlt, winS]
    have bad : xs[i].f0 < 0 ∨ xs[i].f1 > 1000000 ∨ xs[i].f0 > xs[i].f1 → Ev (fun k => haulierref09_Windows.j2 k xs (i : Int) true) (if xs[i].f0 < 0 ∨ xs[i].f1 > 1000000 ∨ xs[i].f0 > xs[i].f1 ∨ xs[i].f0 ≤ lo then ((i : Int), 2) else winS (i + 1) xs[i].f1 (xs.drop (i + 1))) := by
      intro hb
      refine Ev.step (fun _ => rfl) ?_
      simp only [haulierref09_Windows.j2]
      exact evPos (by simp) (evNow (if_pos (by omega)).symm)
    refine Ev.step (fun _ => rfl) ?_
    simp only [haulierref09_Windows.l0]
    refine evPos (by omega) (evPos (by omega) ?_)
    simp only [rdW xs i hlt]
    by_cases h1 : xs[i].f0 < 0
    · exact evPos h1 (bad (.inl h1))
    refine evNeg h1 ?_
    by_cases h2 : xs[i].f1 > 1000000
    · exact evPos h2 (bad (.inr (.inl h2)))
    refine evNeg h2 ?_
    by_cases h3 : xs[i].f0 > xs[i].f1
    · rw [decide_eq_true h3]
      exact bad (.inr (.inr h3))
    rw [decide_eq_false h3]
    refine Ev.step (fun _ => rfl) ?_
    simp only [haulierref09_Windows.j2]
    refine evNeg (by decide) ?_
    rcases hlo with ⟨rfl, rfl⟩ | ⟨⟨hi0, hi1⟩, rfl⟩
    · refine evNeg (by omega) ?_
      rw [wrap_succ hlt hn]
      exact evEq next (if_neg (by omega)).symm
    · refine evPos (by omega) (evPos (by omega) (evPos (by omega) ?_))
      rw [wrap_pred hi0 (by omega : i ≤ xs.length) hn, wrap_succ hlt hn]
      refine evPos (by omega) (evPos (by omega) ?_)
      simp only [rdW xs i hlt, rdW xs (i - 1) hi1]
      by_cases h4 : xs[i].f0 ≤ (xs[i - 1]'hi1).f1
      · exact evPos h4 (evNow (if_pos (by omega)).symm)
      · exact evNeg h4 (evEq next (if_neg (by omega)).symm)
theorem refWindows_ev (xs : List S32) (hn : xs.length ≤ 4611686018427387904) : Ev (fun k => haulierref09_Windows.f k xs) (windowsS xs) := by
  unfold haulierref09_Windows.f windowsS
  by_cases h1 : xs.length < 1
  · refine evPos (by omega) (Ev.step (fun _ => rfl) ?_)
    simp only [haulierref09_Windows.j0]
    exact evPos (by simp) (evNow (if_pos (by omega)).symm)
  refine evNeg (by omega) (Ev.step (fun _ => rfl) ?_)
  simp only [haulierref09_Windows.j0]
  by_cases h2 : xs.length > 4
  · exact evPos (by simp; omega) (evNow (if_pos (by omega)).symm)
  · refine evNeg (by simp; omega) ?_
    rw [if_neg (by omega)]
    simpa using refWindows_l0 xs hn xs.length 0 (-1) (by omega) (.inl ⟨rfl, rfl⟩)
theorem winS_ok : ∀ (l : List S32) (i lo : Int), -1 ≤ lo → ((winS i lo l).2 = 0 ↔ Srt lo l)
  | [], _, _, _ => by simp [winS, Srt]
  | w :: l, i, lo, h0 => by
    unfold winS Srt
    by_cases h : w.f0 < 0 ∨ w.f1 > 1000000 ∨ w.f0 > w.f1 ∨ w.f0 ≤ lo
    · rw [if_pos h]
      refine ⟨fun e => absurd e (by simp), fun e => ?_⟩
      obtain ⟨h1, h2, h3, _⟩ := e
      omega
    · rw [if_neg h, winS_ok l (i + 1) w.f1 (by omega)]
      constructor
      · intro hs
        exact ⟨by omega, by omega, by omega, hs⟩
      · intro hs
        exact hs.2.2.2
theorem windowsS_ok (l : List S32) : (windowsS l).2 = 0 ↔ okW l := by
  unfold windowsS okW
  by_cases h : l.length < 1 ∨ l.length > 4
  · rw [if_pos h]
    refine ⟨fun e => absurd e (by simp), fun e => ?_⟩
    obtain ⟨h1, h2, _⟩ := e
    omega
  · rw [if_neg h, winS_ok l 0 (-1) (by omega)]
    constructor
    · intro hs
      exact ⟨by omega, by omega, hs⟩
    · intro hs
      exact hs.2.2

instance okW.dec (l : List S32) : Decidable (okW l) := by
  unfold okW
  exact inferInstance
theorem lawful_ev (xs : List S32) (hn : xs.length ≤ 4611686018427387904) : Ev (fun k => haulierlaw11_lawful.f k xs) (decide (okW xs)) := by
  unfold haulierlaw11_lawful.f
  refine Ev.bind (refWindows_ev xs hn) (evNow ?_)
  by_cases h : okW xs
  · have := (windowsS_ok xs).2 h
    simp [this, h]
  · have : ¬ (windowsS xs).2 = 0 := fun e => h ((windowsS_ok xs).1 e)
    simp [this, h]

theorem awake_ev : Ev (fun k => haulierlaw11_Awake.f k) true := Ev.of haulierlaw11_Awake.mono (k := 10) (by decide +kernel)

theorem inS_iff (t : Int) : ∀ (l : List S32) (lo : Int), Srt lo l → (inS t l = true ↔ ∃ w ∈ l, w.f0 ≤ t ∧ t ≤ w.f1)
  | [], _, _ => by simp [inS, startS]
  | w :: l, lo, h => by
    obtain ⟨h1, h2, h3, h4⟩ := h
    have ih := inS_iff t l w.f1 h4
    unfold inS at ih ⊢
    rw [startS]
    by_cases ht : t ≤ w.f1
    · simp only [ht, if_true, beq_iff_eq, List.mem_cons, exists_eq_or_imp]
      constructor
      · intro e
        exact .inl ⟨by unfold mx at e; split at e <;> omega, trivial⟩
      · rintro (⟨e, _⟩ | ⟨v, hv, e, _⟩)
        · unfold mx
          split <;> omega
        · have := lo_lt l w.f1 h4 v hv
          omega
    · simp only [ht, if_false]
      rw [ih]
      simp only [List.mem_cons, exists_eq_or_imp]
      constructor
      · exact .inr
      · rintro (⟨_, e⟩ | e)
        · omega
        · exact e
where
  lo_lt : ∀ (l : List S32) (lo : Int), Srt lo l → ∀ v ∈ l, lo < v.f0
    | [], _, _, v, hv => by simp at hv
    | w :: l, lo, h, v, hv => by
      obtain ⟨h1, h2, h3, h4⟩ := h
      rcases List.mem_cons.1 hv with rfl | hv
      · exact h1
      · have := lo_lt l w.f1 h4 v hv
        omega
/-- Start: not ahead of t, in a window, and nothing between is in one. -/
theorem startS_spec (t : Int) : ∀ (l : List S32) (lo : Int), Srt lo l → ((startS t l).2 = true → t ≤ (startS t l).1 ∧ (∃ w ∈ l, w.f0 ≤ (startS t l).1 ∧ (startS t l).1 ≤ w.f1) ∧ ∀ u, t ≤ u → u < (startS t l).1 → ¬ ∃ w ∈ l, w.f0 ≤ u ∧ u ≤ w.f1) ∧
      ((startS t l).2 = false → ∀ u, t ≤ u → ¬ ∃ w ∈ l, w.f0 ≤ u ∧ u ≤ w.f1)
  | [], _, _ => by simp [startS]
  | w :: l, lo, h => by
    obtain ⟨h1, h2, h3, h4⟩ := h
    have ih := startS_spec t l w.f1 h4
    rw [startS]
    by_cases ht : t ≤ w.f1
    · simp only [ht, if_true]
      refine ⟨fun _ => ⟨by unfold mx; split <;> omega, ⟨w, by simp, by unfold mx; split <;> omega, by unfold mx; split <;> omega⟩, ?_⟩, fun e => by simp at e⟩
      rintro u h5 h6 ⟨v, hv, h7, h8⟩
      rcases List.mem_cons.1 hv with rfl | hv
      · unfold mx at h6
        split at h6 <;> omega
      · have := inS_iff.lo_lt l w.f1 h4 v hv
        unfold mx at h6
        split at h6 <;> omega
    · simp only [ht, if_false]
      refine ⟨fun e => ?_, fun e u h5 => ?_⟩
      · obtain ⟨a, ⟨v, hv, b⟩, c⟩ := ih.1 e
        refine ⟨a, ⟨v, List.mem_cons_of_mem _ hv, b⟩, ?_⟩
        rintro u h5 h6 ⟨x, hx, h7, h8⟩
        rcases List.mem_cons.1 hx with rfl | hx
        · omega
        · exact c u h5 h6 ⟨x, hx, h7, h8⟩
      · rintro ⟨x, hx, h7, h8⟩
        rcases List.mem_cons.1 hx with rfl | hx
        · omega
        · exact ih.2 e u h5 ⟨x, hx, h7, h8⟩
/-- Last: not behind t, in a window, and nothing between is in one. -/
theorem lastS_spec (t : Int) : ∀ (l : List S32) (lo : Int), Srt lo l → ((lastS t l).2 = true → (lastS t l).1 ≤ t ∧ (∃ w ∈ l, w.f0 ≤ (lastS t l).1 ∧ (lastS t l).1 ≤ w.f1) ∧ ∀ u, u ≤ t → (lastS t l).1 < u → ¬ ∃ w ∈ l, w.f0 ≤ u ∧ u ≤ w.f1) ∧
      ((lastS t l).2 = false → ∀ u, u ≤ t → ¬ ∃ w ∈ l, w.f0 ≤ u ∧ u ≤ w.f1)
  | [], _, _ => by simp [lastS]
  | w :: l, lo, h => by
    obtain ⟨h1, h2, h3, h4⟩ := h
    have ih := lastS_spec t l w.f1 h4
    rw [lastS_cons]
    cases hl : (lastS t l).2 with
    | true =>
      simp only [if_true]
      obtain ⟨a, ⟨v, hv, b⟩, c⟩ := ih.1 hl
      have hlo := inS_iff.lo_lt l w.f1 h4 v hv
      refine ⟨fun _ => ⟨a, ⟨v, List.mem_cons_of_mem _ hv, b⟩, ?_⟩, fun e => by rw [hl] at e; simp at e⟩
      rintro u h5 h6 ⟨x, hx, h7, h8⟩
      rcases List.mem_cons.1 hx with rfl | hx
      · omega
      · exact c u h5 h6 ⟨x, hx, h7, h8⟩
    | false =>
      have no := ih.2 hl
      simp only [Bool.false_eq_true, if_false]
      by_cases ht : t ≥ w.f0
      · simp only [ht, if_true]
        refine ⟨fun _ => ⟨by unfold mn; split <;> omega, ⟨w, by simp, by unfold mn; split <;> omega, by unfold mn; split <;> omega⟩, ?_⟩, fun e => by simp at e⟩
        rintro u h5 h6 ⟨x, hx, h7, h8⟩
        rcases List.mem_cons.1 hx with rfl | hx
        · unfold mn at h6
          split at h6 <;> omega
        · exact no u h5 ⟨x, hx, h7, h8⟩
      · simp only [ht, if_false]
        refine ⟨fun e => by simp at e, fun _ u h5 => ?_⟩
        rintro ⟨x, hx, h7, h8⟩
        rcases List.mem_cons.1 hx with rfl | hx
        · omega
        · exact no u h5 ⟨x, hx, h7, h8⟩
theorem step_range (x : Int) : 0 ≤ wrap64 (Int.tmod (IntKind.u64.wrap x) 1000) ∧ wrap64 (Int.tmod (IntKind.u64.wrap x) 1000) < 1000 := by
  have h : 0 ≤ IntKind.u64.wrap x := by
    simp [IntKind.wrap, IntKind.bits, IntKind.signed]
    omega
  generalize IntKind.u64.wrap x = y at h
  rw [Int.tmod_eq_emod_of_nonneg h]
  unfold wrap64
  omega
theorem law (l : List S32) (t step : Int) (hl : l.length ≤ maxLen ∧ l.length * 16 ≤ 140737488351232 ∧ ∀ y ∈ l, G32 y) (ht : (Lit.int .i64 t).wf = true) (hs : (Lit.int .i64 step).wf = true) : ∃ k, haulierlaw11_HoursNear.f k l t step = some true := by
  obtain ⟨_, hb, _⟩ := hl
  have hn : l.length ≤ 4611686018427387904 := by omega
  refine Ev.rounds (g := fun k => haulierlaw11_HoursNear.f k l t step) ?_
  unfold haulierlaw11_HoursNear.f
  have early : Ev (fun k => haulierlaw11_HoursNear.j0 k l t step true) true := by
    refine Ev.step (fun _ => rfl) ?_
    simp only [haulierlaw11_HoursNear.j0]
    exact evPos (by simp) (Ev.now _)
  refine Ev.bind awake_ev (evPos rfl (Ev.bind (lawful_ev l hn) ?_))
  by_cases hno : ¬ okW l
  · exact evNeg (by simp [hno]) early
  have h : okW l := Decidable.not_not.1 hno
  refine evPos (by simp [h]) ?_
  by_cases h1 : t < -5000000
  · exact evPos h1 early
  refine evNeg h1 ?_
  by_cases h2 : t > 5000000
  · rw [decide_eq_true h2]
    exact early
  rw [decide_eq_false h2]
  have hS : Srt (-1) l := h.2.2
  obtain ⟨r0, r1⟩ := step_range step
  refine Ev.step (fun _ => rfl) ?_
  simp only [haulierlaw11_HoursNear.j0]
  refine evNeg (by simp) (Ev.bind (hours_Start_ev t l hn) (Ev.bind (hours_Last_ev t l hn) ?_))
  generalize wrap64 (Int.tmod (IntKind.u64.wrap step) 1000) = s at r0 r1
  rw [wrap_ok (n := t + s) (by omega) (by omega)]
  have sp := startS_spec t l _ hS
  have lp := lastS_spec t l _ hS
  have hin := fun u => inS_iff u l _ hS
  -- what follows once the first test has been passed
  have second : Ev (fun k => haulierlaw11_HoursNear.j1 k l t s (startS t l).1 (startS t l).2 (lastS t l).1 (lastS t l).2 false) true := by
    refine Ev.step (fun _ => rfl) ?_
    simp only [haulierlaw11_HoursNear.j1]
    refine evNeg (by simp) ?_
    rw [wrap_ok (n := t - s) (by omega) (by omega)]
    have last : ∀ (p : Bool), ((startS t l).2 = true → (lastS t l).2 = true → inS t l = ((startS t l).1 == (lastS t l).1 && (startS t l).1 == t)) → True := fun _ _ => trivial
    have same : inS t l = ((startS t l).2 && (startS t l).1 == t) := by
      unfold inS
      cases (startS t l).2 <;> simp
    cases hb2 : (lastS t l).2 with
    | true =>
      obtain ⟨a, b, c⟩ := lp.1 hb2
      refine evPos rfl (evNeg (by omega) (Ev.bind (hours_In_ev _ l hn) (evPos ((hin _).2 b) ?_)))
      have rest : Ev (fun k => (hours_In.f k l t).bind fun t135 => (if (startS t l).2 = true then (if (startS t l).1 = (lastS t l).1 then (some (t135 == ((startS t l).1 == t))) else (some (t135 == false))) else (some (t135 == false)))) true := by
        refine Ev.bind (hours_In_ev t l hn) ?_
        rw [same]
        cases ha : (startS t l).2 with
        | false => exact evNow (by simp)
        | true =>
          obtain ⟨a', b', c'⟩ := sp.1 ha
          refine evPos rfl ?_
          by_cases he : (startS t l).1 = (lastS t l).1
          · exact evPos he (evNow (by simp))
          · refine evNeg he (evNow ?_)
            have : ¬ (startS t l).1 = t := by
              intro e
              by_cases hlt : (lastS t l).1 < t
              · exact c t (by omega) hlt (e ▸ b')
              · omega
            simp [this]
      by_cases h5 : t - s > (lastS t l).1
      · refine evPos h5 (Ev.bind (hours_In_ev _ l hn) (evNeg ?_ rest))
        rw [hin]
        exact c _ (by omega) (by omega)
      · exact evNeg h5 rest
    | false =>
      refine evNeg (by simp) (Ev.bind (hours_In_ev _ l hn) (evNeg ?_ (Ev.bind (hours_In_ev t l hn) ?_)))
      · rw [hin]
        exact lp.2 hb2 _ (by omega)
      · have no : inS t l = false := by
          cases e : inS t l with
          | false => rfl
          | true => exact absurd ((hin t).1 e) (lp.2 hb2 t (by omega))
        rw [no]
        cases (startS t l).2 <;> exact evNow (by simp)
  cases ha : (startS t l).2 with
  | true =>
    obtain ⟨a, b, c⟩ := sp.1 ha
    rw [ha] at second
    refine evPos rfl (evNeg (by omega) (Ev.bind (hours_In_ev _ l hn) (evPos ((hin _).2 b) ?_)))
    by_cases h5 : t + s < (startS t l).1
    · refine evPos h5 (Ev.bind (hours_In_ev _ l hn) (evNeg ?_ second))
      rw [hin]
      exact c _ (by omega) (by omega)
    · exact evNeg h5 second
  | false =>
    rw [ha] at second
    refine evNeg (by simp) (Ev.bind (hours_In_ev _ l hn) ?_)
    have no : inS (t + s) l = false := by
      cases e : inS (t + s) l with
      | false => rfl
      | true => exact absurd ((hin _).1 e) (sp.2 ha _ (by omega))
    rw [no]
    exact second

end Go.Proofs.Ytoinhkilgijilaa.PHoursNear
