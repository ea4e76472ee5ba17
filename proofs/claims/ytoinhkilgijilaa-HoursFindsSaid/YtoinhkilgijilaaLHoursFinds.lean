/- What the printed functions about windows of time answer, in plain words, and the law that stands at the end.
Conditions: those of the law's own row. -/
import Derived.Test.YtoinhkilgijilaaPHoursFindsx
import Derived.Test.YtoinhkilgijilaaEvKit
import Derived.Test.YtoinhkilgijilaaKHoursFinds
namespace Go.Proofs.Ytoinhkilgijilaa.PHoursFinds
open Go.RowKit Go.Proofs.YtoinhkilgijilaaW.PrintWords Go.Proofs.YtoinhkilgijilaaW.PrintLast Go.Proofs.YtoinhkilgijilaaW.PrintMore Go.Proofs.Ytoinhkilgijilaa.EvKit
set_option linter.unusedVariables false
set_option linter.unusedSimpArgs false

/-! ### windows -/
theorem rdW (xs : List S32) (i : Nat) (h : i < xs.length) : rd_T32 xs (i : Int) = xs[i] := by
  simp [rd_T32, List.getElem?_eq_getElem h]
/-- Windows that Check allows: rising, apart, from lo on. -/
def Srt : Int → List S32 → Prop
  | _, [] => True
  | lo, w :: l => lo < w.f0 ∧ w.f0 ≤ w.f1 ∧ w.f1 ≤ 1000000 ∧ Srt w.f1 l
instance Srt.dec : ∀ (lo : Int) (l : List S32), Decidable (Srt lo l)
  | _, [] => isTrue trivial
  | lo, w :: l => by
    unfold Srt
    have := Srt.dec w.f1 l
    exact inferInstance
def okW (l : List S32) : Prop := 1 ≤ l.length ∧ l.length ≤ 4 ∧ Srt (-1) l
theorem Srt.mono {lo lo' : Int} {l : List S32} (h : Srt lo l) (hl : lo' ≤ lo) : Srt lo' l := by
  cases l with
  | nil => trivial
  | cons w l =>
    obtain ⟨h1, h2⟩ := h
    exact ⟨by omega, h2⟩
def startS (t : Int) : List S32 → Int × Bool
  | [] => (0, false)
  | w :: l => if t ≤ w.f1 then (mx t w.f0, true) else startS t l
def lastS (t : Int) : List S32 → Int × Bool
  | [] => (0, false)
  | w :: l => if (lastS t l).2 = true then lastS t l else if t ≥ w.f0 then (mn t w.f1, true) else (0, false)
theorem lastS_cons (t : Int) (w : S32) (l : List S32) : lastS t (w :: l) = if (lastS t l).2 = true then lastS t l else if t ≥ w.f0 then (mn t w.f1, true) else (0, false) := rfl

theorem hours_Start_l0 (t : Int) (xs : List S32) (hn : xs.length ≤ 4611686018427387904) : ∀ (d i : Nat), i + d = xs.length →
    Ev (fun k => hours_Start.l0 k t xs (xs.length : Int) (i : Int)) (startS t (xs.drop i)) := by
  intro d
  induction d with
  | zero =>
    intro i hi
    refine Ev.step (fun _ => rfl) ?_
    simp only [hours_Start.l0]
    refine evNeg (by omega) (evNow ?_)
    rw [List.drop_of_length_le (by omega)]
    rfl
  | succ d ih =>
    intro i hi
    refine Ev.step (fun _ => rfl) ?_
    simp only [hours_Start.l0]
    have hlt : i < xs.length := by omega
    rw [List.drop_eq_getElem_cons hlt, startS]
    refine evPos (by omega) (evPos (by omega) (evPos (by omega) ?_))
    simp only [rdW xs i hlt, wrap_succ hlt hn]
    exact evIte (fun _ => Ev.now _) (fun _ => ih (i + 1) (by omega))
theorem hours_Start_ev (t : Int) (xs : List S32) (hn : xs.length ≤ 4611686018427387904) : Ev (fun k => hours_Start.f k xs t) (startS t xs) := by
  have := hours_Start_l0 t xs hn xs.length 0 (by omega)
  simpa [hours_Start.f] using this

theorem lastS_snoc (t : Int) (w : S32) : ∀ l : List S32, lastS t (l ++ [w]) = if t ≥ w.f0 then (mn t w.f1, true) else lastS t l := by
  intro l
  induction l with
  | nil => by_cases h : t ≥ w.f0 <;> simp [lastS, h]
  | cons x l ih =>
    rw [List.cons_append, lastS_cons, ih]
    by_cases h : t ≥ w.f0
    · simp [h]
    · simp only [h, if_false]
      exact (lastS_cons t x l).symm
theorem hours_Last_l0 (t : Int) (xs : List S32) (hn : xs.length ≤ 4611686018427387904) : ∀ (i : Nat), i ≤ xs.length →
    Ev (fun k => hours_Last.l0 k xs t ((i : Int) - 1)) (lastS t (xs.take i)) := by
  intro i
  induction i with
  | zero =>
    intro hi
    refine Ev.step (fun _ => rfl) ?_
    simp only [hours_Last.l0]
    refine evNeg (by omega) (evNow ?_)
    rfl
  | succ i ih =>
    intro hi
    refine Ev.step (fun _ => rfl) ?_
    simp only [hours_Last.l0]
    have hlt : i < xs.length := by omega
    rw [List.take_succ_eq_append_getElem hlt, lastS_snoc]
    rw [show ((i + 1 : Nat) : Int) - 1 = (i : Int) by omega]
    refine evPos (by omega) (evPos (by omega) (evPos (by omega) ?_))
    simp only [rdW xs i hlt]
    rw [wrap_ok (by omega) (by omega)]
    exact evIte (fun _ => Ev.now _) (fun _ => ih (by omega))
theorem hours_Last_ev (t : Int) (xs : List S32) (hn : xs.length ≤ 4611686018427387904) : Ev (fun k => hours_Last.f k xs t) (lastS t xs) := by
  have := hours_Last_l0 t xs hn xs.length (by omega)
  rw [List.take_length] at this
  unfold hours_Last.f
  rw [wrap_ok (by omega) (by omega)]
  exact this

def inS (t : Int) (l : List S32) : Bool := if (startS t l).2 = true then (startS t l).1 == t else false
theorem hours_In_ev (t : Int) (xs : List S32) (hn : xs.length ≤ 4611686018427387904) : Ev (fun k => hours_In.f k xs t) (inS t xs) := by
  unfold hours_In.f inS
  refine Ev.bind (hours_Start_ev t xs hn) ?_
  by_cases h : (startS t xs).2 = true
  · simp only [h, if_true]
    exact Ev.now _
  · simp only [h]
    exact Ev.now _

/-- What the document's Windows finds from place i on; lo: where the window ahead of it ends. -/
def winS : Int → Int → List S32 → Int × Int
  | _, _, [] => (-1, 0)
  | i, lo, w :: l => if w.f0 < 0 ∨ w.f1 > 1000000 ∨ w.f0 > w.f1 ∨ w.f0 ≤ lo then (i, 2) else winS (i + 1) w.f1 l
def windowsS (l : List S32) : Int × Int := if l.length < 1 ∨ l.length > 4 then (-1, 43) else winS 0 (-1) l
theorem refWindows_l0 (xs : List S32) (hn : xs.length ≤ 4611686018427387904) : ∀ (d i : Nat) (lo : Int), i + d = xs.length → (lo = -1 ∧ i = 0 ∨ ∃ h : 0 < i ∧ i - 1 < xs.length, lo = (xs[i - 1]'h.2).f1) →
    Ev (fun k => haulierref09_Windows.l0 k xs (i : Int)) (winS i lo (xs.drop i)) := by
  intro d
  induction d with
  | zero =>
    intro i lo hi hlo
    refine Ev.step (fun _ => rfl) ?_
    simp only [haulierref09_Windows.l0]
    refine evNeg (by omega) (evNow ?_)
    rw [List.drop_of_length_le (by omega)]
    rfl
  | succ d ih =>
    intro i lo hi hlo
    have hlt : i < xs.length := by omega
    have next := ih (i + 1) xs[i].f1 (by omega) (.inr ⟨⟨by omega, by omega⟩, by simp⟩)
    rw [List.drop_eq_getElem_cons hlt, winS]
    have bad : xs[i].f0 < 0 ∨ xs[i].f1 > 1000000 ∨ xs[i].f0 > xs[i].f1 → Ev (fun k => haulierref09_Windows.j2 k xs (i : Int) true) (if xs[i].f0 < 0 ∨ xs[i].f1 > 1000000 ∨ xs[i].f0 > xs[i].f1 ∨ xs[i].f0 ≤ lo then ((i : Int), 2) else winS (i + 1) xs[i].f1 (xs.drop (i + 1))) := by
      intro hb
      refine Ev.step (fun _ => rfl) ?_
      simp only [haulierref09_Windows.j2]
      exact evPos (by simp) (evNow (if_pos (by omega)).symm)
    refine Ev.step (fun _ => rfl) ?_
    simp only [haulierref09_Windows.l0]
    refine evPos (by omega) (evPos (by omega) ?_)
    simp only [rdW xs i hlt]
    by_cases h1 : xs[i].f0 < 0
    · exact evPos h1 (bad (.inl h1))
    refine evNeg h1 ?_
    by_cases h2 : xs[i].f1 > 1000000
    · exact evPos h2 (bad (.inr (.inl h2)))
    refine evNeg h2 ?_
    by_cases h3 : xs[i].f0 > xs[i].f1
    · rw [decide_eq_true h3]
      exact bad (.inr (.inr h3))
    rw [decide_eq_false h3]
    refine Ev.step (fun _ => rfl) ?_
    simp only [haulierref09_Windows.j2]
    refine evNeg (by decide) ?_
    rcases hlo with ⟨rfl, rfl⟩ | ⟨⟨hi0, hi1⟩, rfl⟩
    · refine evNeg (by omega) ?_
      rw [wrap_succ hlt hn]
      exact evEq next (if_neg (by omega)).symm
    · refine evPos (by omega) (evPos (by omega) (evPos (by omega) ?_))
      rw [wrap_pred hi0 (by omega : i ≤ xs.length) hn, wrap_succ hlt hn]
      refine evPos (by omega) (evPos (by omega) ?_)
      simp only [rdW xs i hlt, rdW xs (i - 1) hi1]
      by_cases h4 : xs[i].f0 ≤ (xs[i - 1]'hi1).f1
      · exact evPos h4 (evNow (if_pos (by omega)).symm)
      · exact evNeg h4 (evEq next (if_neg (by omega)).symm)
theorem refWindows_ev (xs : List S32) (hn : xs.length ≤ 4611686018427387904) : Ev (fun k => haulierref09_Windows.f k xs) (windowsS xs) := by
  unfold haulierref09_Windows.f windowsS
  by_cases h1 : xs.length < 1
  · refine evPos (by omega) (Ev.step (fun _ => rfl) ?_)
    simp only [haulierref09_Windows.j0]
    exact evPos (by simp) (evNow (if_pos (by omega)).symm)
  refine evNeg (by omega) (Ev.step (fun _ => rfl) ?_)
  simp only [haulierref09_Windows.j0]
  by_cases h2 : xs.length > 4
  · exact evPos (by simp; omega) (evNow (if_pos (by omega)).symm)
  · refine evNeg (by simp; omega) ?_
    rw [if_neg (by omega)]
    simpa using refWindows_l0 xs hn xs.length 0 (-1) (by omega) (.inl ⟨rfl, rfl⟩)
theorem winS_ok : ∀ (l : List S32) (i lo : Int), -1 ≤ lo → ((winS i lo l).2 = 0 ↔ Srt lo l)
  | [], _, _, _ => by simp [winS, Srt]
  | w :: l, i, lo, h0 => by
    unfold winS Srt
    by_cases h : w.f0 < 0 ∨ w.f1 > 1000000 ∨ w.f0 > w.f1 ∨ w.f0 ≤ lo
    · rw [if_pos h]
      refine ⟨fun e => absurd e (by simp), fun e => ?_⟩
      obtain ⟨h1, h2, h3, _⟩ := e
      omega
    · rw [if_neg h, winS_ok l (i + 1) w.f1 (by omega)]
      constructor
      · intro hs
        exact ⟨by omega, by omega, by omega, hs⟩
      · intro hs
        exact hs.2.2.2
theorem windowsS_ok (l : List S32) : (windowsS l).2 = 0 ↔ okW l := by
  unfold windowsS okW
  by_cases h : l.length < 1 ∨ l.length > 4
  · rw [if_pos h]
    refine ⟨fun e => absurd e (by simp), fun e => ?_⟩
    obtain ⟨h1, h2, _⟩ := e
    omega
  · rw [if_neg h, winS_ok l 0 (-1) (by omega)]
    constructor
    · intro hs
      exact ⟨by omega, by omega, hs⟩
    · intro hs
      exact hs.2.2

instance okW.dec (l : List S32) : Decidable (okW l) := by
  unfold okW
  exact inferInstance
theorem lawful_ev (xs : List S32) (hn : xs.length ≤ 4611686018427387904) : Ev (fun k => haulierlaw11_lawful.f k xs) (decide (okW xs)) := by
  unfold haulierlaw11_lawful.f
  refine Ev.bind (refWindows_ev xs hn) (evNow ?_)
  by_cases h : okW xs
  · have := (windowsS_ok xs).2 h
    simp [this, h]
  · have : ¬ (windowsS xs).2 = 0 := fun e => h ((windowsS_ok xs).1 e)
    simp [this, h]

def stepS (t : Int) (p : Int × Bool) (w : S32) : Int × Bool :=
  if t > w.f1 then p else if p.2 = true then (if mx w.f0 t < p.1 then (mx w.f0 t, true) else p) else (mx w.f0 t, true)
theorem refStart_l0 (t : Int) (xs : List S32) (hn : xs.length ≤ 4611686018427387904) : ∀ (d i : Nat) (b : Int) (f : Bool), i + d = xs.length →
    Ev (fun k => haulierref09_Start.l0 k xs t b f (i : Int)) ((xs.drop i).foldl (stepS t) (b, f)) := by
  intro d
  induction d with
  | zero =>
    intro i b f hi
    refine Ev.step (fun _ => rfl) ?_
    simp only [haulierref09_Start.l0]
    refine evNeg (by omega) (evNow ?_)
    rw [List.drop_of_length_le (by omega)]
    rfl
  | succ d ih =>
    intro i b f hi
    have hlt : i < xs.length := by omega
    refine Ev.step (fun _ => rfl) ?_
    simp only [haulierref09_Start.l0]
    rw [List.drop_eq_getElem_cons hlt, List.foldl_cons]
    refine evPos (by omega) (evPos (by omega) ?_)
    simp only [rdW xs i hlt, wrap_succ hlt hn]
    by_cases h1 : t > xs[i].f1
    · refine evPos h1 (evEq (ih (i + 1) b f (by omega)) ?_)
      simp only [stepS, h1, if_true]
    refine evNeg h1 ?_
    have hm : mx xs[i].f0 t = if t > xs[i].f0 then t else xs[i].f0 := by
      unfold mx
      by_cases h : xs[i].f0 < t <;> simp [h]
    by_cases h2 : t > xs[i].f0
    · refine evPos h2 ?_
      rw [if_pos h2] at hm
      cases f with
      | true =>
        refine evPos rfl ?_
        by_cases h3 : t < b
        · refine evPos h3 (evEq (ih (i + 1) t true (by omega)) ?_)
          simp only [stepS, h1, hm, h3, if_true, if_false]
        · refine evNeg h3 (evEq (ih (i + 1) b true (by omega)) ?_)
          simp only [stepS, h1, hm, h3, if_true, if_false]
      | false =>
        refine evNeg (by decide) (evEq (ih (i + 1) t true (by omega)) ?_)
        simp [stepS, h1, hm]
    · refine evNeg h2 ?_
      rw [if_neg h2] at hm
      cases f with
      | true =>
        refine evPos rfl ?_
        by_cases h3 : xs[i].f0 < b
        · refine evPos h3 (evEq (ih (i + 1) _ true (by omega)) ?_)
          simp only [stepS, h1, hm, h3, if_true, if_false]
        · refine evNeg h3 (evEq (ih (i + 1) b true (by omega)) ?_)
          simp only [stepS, h1, hm, h3, if_true, if_false]
      | false =>
        refine evNeg (by decide) (evEq (ih (i + 1) _ true (by omega)) ?_)
        simp [stepS, h1, hm]
theorem stepS_found (t : Int) : ∀ (l : List S32) (lo b : Int), Srt lo l → b ≤ lo → l.foldl (stepS t) (b, true) = (b, true)
  | [], _, _, _, _ => rfl
  | w :: l, lo, b, h, hb => by
    obtain ⟨h1, h2, h3, h4⟩ := h
    rw [List.foldl_cons]
    have : stepS t (b, true) w = (b, true) := by
      unfold stepS mx
      simp only [if_true]
      split
      · rfl
      · rw [if_neg (by split <;> omega)]
    rw [this]
    exact stepS_found t l w.f1 b h4 (by omega)
theorem refStart_eq (t : Int) : ∀ (l : List S32) (lo : Int), Srt lo l → l.foldl (stepS t) (0, false) = startS t l
  | [], _, _ => rfl
  | w :: l, lo, h => by
    obtain ⟨h1, h2, h3, h4⟩ := h
    rw [List.foldl_cons, startS]
    by_cases ht : t ≤ w.f1
    · rw [if_pos ht]
      have : stepS t (0, false) w = (mx t w.f0, true) := by
        unfold stepS mx
        simp only [show ¬ t > w.f1 by omega, if_false, Bool.false_eq_true]
        split <;> split <;> first | rfl | (congr 1; omega)
      rw [this]
      exact stepS_found t l w.f1 _ h4 (by unfold mx; split <;> omega)
    · rw [if_neg ht]
      have : stepS t (0, false) w = (0, false) := by
        unfold stepS
        rw [if_pos (by omega)]
      rw [this]
      exact refStart_eq t l w.f1 h4
theorem refStart_ev (t : Int) (xs : List S32) (hn : xs.length ≤ 4611686018427387904) (lo : Int) (h : Srt lo xs) : Ev (fun k => haulierref09_Start.f k xs t) (startS t xs) := by
  have := refStart_l0 t xs hn xs.length 0 0 false (by omega)
  rw [List.drop_zero, refStart_eq t xs lo h] at this
  simpa [haulierref09_Start.f] using this

def stepL (t : Int) (p : Int × Bool) (w : S32) : Int × Bool :=
  if t < w.f0 then p else if p.2 = true then (if mn w.f1 t > p.1 then (mn w.f1 t, true) else p) else (mn w.f1 t, true)
theorem refLast_l0 (t : Int) (xs : List S32) (hn : xs.length ≤ 4611686018427387904) : ∀ (d i : Nat) (b : Int) (f : Bool), i + d = xs.length →
    Ev (fun k => haulierref09_Last.l0 k xs t b f (i : Int)) ((xs.drop i).foldl (stepL t) (b, f)) := by
  intro d
  induction d with
  | zero =>
    intro i b f hi
    refine Ev.step (fun _ => rfl) ?_
    simp only [haulierref09_Last.l0]
    refine evNeg (by omega) (evNow ?_)
    rw [List.drop_of_length_le (by omega)]
    rfl
  | succ d ih =>
    intro i b f hi
    have hlt : i < xs.length := by omega
    refine Ev.step (fun _ => rfl) ?_
    simp only [haulierref09_Last.l0]
    rw [List.drop_eq_getElem_cons hlt, List.foldl_cons]
    refine evPos (by omega) (evPos (by omega) ?_)
    simp only [rdW xs i hlt, wrap_succ hlt hn]
    by_cases h1 : t < xs[i].f0
    · refine evPos h1 (evEq (ih (i + 1) b f (by omega)) ?_)
      simp only [stepL, h1, if_true]
    refine evNeg h1 ?_
    have hm : mn xs[i].f1 t = if t < xs[i].f1 then t else xs[i].f1 := rfl
    by_cases h2 : t < xs[i].f1
    · refine evPos h2 ?_
      rw [if_pos h2] at hm
      cases f with
      | true =>
        refine evPos rfl ?_
        by_cases h3 : t > b
        · refine evPos h3 (evEq (ih (i + 1) t true (by omega)) ?_)
          simp only [stepL, h1, hm, h3, if_true, if_false]
        · refine evNeg h3 (evEq (ih (i + 1) b true (by omega)) ?_)
          simp only [stepL, h1, hm, h3, if_true, if_false]
      | false =>
        refine evNeg (by decide) (evEq (ih (i + 1) t true (by omega)) ?_)
        simp [stepL, h1, hm]
    · refine evNeg h2 ?_
      rw [if_neg h2] at hm
      cases f with
      | true =>
        refine evPos rfl ?_
        by_cases h3 : xs[i].f1 > b
        · refine evPos h3 (evEq (ih (i + 1) _ true (by omega)) ?_)
          simp only [stepL, h1, hm, h3, if_true, if_false]
        · refine evNeg h3 (evEq (ih (i + 1) b true (by omega)) ?_)
          simp only [stepL, h1, hm, h3, if_true, if_false]
      | false =>
        refine evNeg (by decide) (evEq (ih (i + 1) _ true (by omega)) ?_)
        simp [stepL, h1, hm]
theorem refLast_eq (t : Int) : ∀ (l : List S32) (lo b : Int) (f : Bool), Srt lo l → (f = true → b ≤ lo) → l.foldl (stepL t) (b, f) = if (lastS t l).2 = true then lastS t l else (b, f)
  | [], _, _, _, _, _ => rfl
  | w :: l, lo, b, f, h, hb => by
    obtain ⟨h1, h2, h3, h4⟩ := h
    rw [List.foldl_cons]
    by_cases ht : t < w.f0
    · have : stepL t (b, f) w = (b, f) := by
        unfold stepL
        rw [if_pos ht]
      rw [this, refLast_eq t l w.f1 b f h4 (fun e => by have := hb e; omega)]
      rw [lastS_cons]
      by_cases hl : (lastS t l).2 = true
      · simp [hl]
      · simp [hl, show ¬ t ≥ w.f0 by omega]
    · have : stepL t (b, f) w = (mn t w.f1, true) := by
        unfold stepL
        rw [if_neg ht]
        have e : mn w.f1 t = mn t w.f1 := by
          unfold mn
          split <;> split <;> omega
        rw [e]
        cases f with
        | false => simp
        | true =>
          have := hb rfl
          simp only [if_true]
          rw [if_pos (by unfold mn; split <;> omega)]
      rw [this, refLast_eq t l w.f1 _ true h4 (fun _ => by unfold mn; split <;> omega)]
      rw [lastS_cons]
      by_cases hl : (lastS t l).2 = true
      · simp [hl]
      · simp [hl, show t ≥ w.f0 by omega]
theorem lastS_false (t : Int) : ∀ l : List S32, ¬ (lastS t l).2 = true → lastS t l = (0, false)
  | [], _ => rfl
  | w :: l, h => by
    rw [lastS_cons] at h ⊢
    split at h
    · contradiction
    · split at h
      · simp at h
      · simp_all
theorem refLast_ev (t : Int) (xs : List S32) (hn : xs.length ≤ 4611686018427387904) (lo : Int) (h : Srt lo xs) : Ev (fun k => haulierref09_Last.f k xs t) (lastS t xs) := by
  have := refLast_l0 t xs hn xs.length 0 0 false (by omega)
  rw [List.drop_zero, refLast_eq t xs lo 0 false h (by simp)] at this
  have e : (if (lastS t xs).2 = true then lastS t xs else (0, false)) = lastS t xs := by
    by_cases hl : (lastS t xs).2 = true
    · simp [hl]
    · rw [if_neg hl, lastS_false t xs hl]
  rw [e] at this
  simpa [haulierref09_Last.f] using this

theorem awake_ev : Ev (fun k => haulierlaw11_Awake.f k) true := Ev.of haulierlaw11_Awake.mono (k := 10) (by decide +kernel)

/-- The law. -/
theorem law (l : List S32) (t : Int) (hl : l.length ≤ maxLen ∧ l.length * 16 ≤ 140737488351232 ∧ ∀ y ∈ l, G32 y) (ht : (Lit.int .i64 t).wf = true) : ∃ k, haulierlaw11_HoursFinds.f k l t = some true := by
  have hn : l.length ≤ 4611686018427387904 := by omega
  refine Ev.rounds (g := fun k => haulierlaw11_HoursFinds.f k l t) ?_
  unfold haulierlaw11_HoursFinds.f
  refine Ev.bind awake_ev (evPos rfl (Ev.bind (lawful_ev l hn) ?_))
  by_cases h : okW l
  · have hs : Srt (-1) l := h.2.2
    refine evPos (by simp [h]) (evSome (evPos (by simp; omega) (evSome ?_)))
    simp only [List.nil_append]
    refine Ev.bind (hours_Start_ev t l hn) (Ev.bind (refStart_ev t l hn _ hs) (Ev.bind (hours_Last_ev t l hn) (Ev.bind (refLast_ev t l hn _ hs) ?_)))
    refine evPos rfl (evPos (by simp) (evPos rfl (evPos (by simp) (Ev.bind (hours_In_ev t l hn) ?_))))
    unfold inS
    cases hb : (startS t l).2 with
    | true => simp only [if_true]; exact evNow (by simp)
    | false => exact evNow (by simp)
  · exact evNeg (by simp [h]) (Ev.now _)

end Go.Proofs.Ytoinhkilgijilaa.PHoursFinds
