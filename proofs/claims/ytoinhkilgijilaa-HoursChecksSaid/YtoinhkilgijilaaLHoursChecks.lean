/- What the printed functions about windows of time answer, in plain words, and the law that stands at the end.
Conditions: those of the law's own row. -/
import Derived.Test.YtoinhkilgijilaaPHoursChecksx
import Derived.Test.YtoinhkilgijilaaEvKit
import Derived.Test.YtoinhkilgijilaaKHoursChecks
namespace Go.Proofs.Ytoinhkilgijilaa.PHoursChecks
open Go.RowKit Go.Proofs.YtoinhkilgijilaaW.PrintWords Go.Proofs.YtoinhkilgijilaaW.PrintLast Go.Proofs.YtoinhkilgijilaaW.PrintMore Go.Proofs.Ytoinhkilgijilaa.EvKit
set_option linter.unusedVariables false
set_option linter.unusedSimpArgs false

/-! ### windows -/
theorem rdW (xs : List S32) (i : Nat) (h : i < xs.length) : rd_T32 xs (i : Int) = xs[i] := by
  simp [rd_T32, List.getElem?_eq_getElem h]
/-- Windows that Check allows: rising, apart, from lo on. -/
def Srt : Int → List S32 → Prop
  | _, [] => True
  | lo, w :: l => lo < w.f0 ∧ w.f0 ≤ w.f1 ∧ w.f1 ≤ 1000000 ∧ Srt w.f1 l
instance Srt.dec : ∀ (lo : Int) (l : List S32), Decidable (Srt lo l)
  | _, [] => isTrue trivial
  | lo, w :: l => by
    unfold Srt
    have := Srt.dec w.f1 l
    exact inferInstance
def okW (l : List S32) : Prop := 1 ≤ l.length ∧ l.length ≤ 4 ∧ Srt (-1) l
theorem Srt.mono {lo lo' : Int} {l : List S32} (h : Srt lo l) (hl : lo' ≤ lo) : Srt lo' l := by
  cases l with
  | nil => trivial
  | cons w l =>
    obtain ⟨h1, h2⟩ := h
    exact ⟨by omega, h2⟩
def startS (t : Int) : List S32 → Int × Bool
  | [] => (0, false)
  | w :: l => if t ≤ w.f1 then (mx t w.f0, true) else startS t l
def lastS (t : Int) : List S32 → Int × Bool
  | [] => (0, false)
  | w :: l => if (lastS t l).2 = true then lastS t l else if t ≥ w.f0 then (mn t w.f1, true) else (0, false)
theorem lastS_cons (t : Int) (w : S32) (l : List S32) : lastS t (w :: l) = if (lastS t l).2 = true then lastS t l else if t ≥ w.f0 then (mn t w.f1, true) else (0, false) := rfl

/-- What the document's Windows finds from place i on; lo: where the window ahead of it ends. -/
def winS : Int → Int → List S32 → Int × Int
  | _, _, [] => (-1, 0)
  | i, lo, w :: l => if w.f0 < 0 ∨ w.f1 > 1000000 ∨ w.f0 > w.f1 ∨ w.f0 ≤ lo then (i, 2) else winS (i + 1) w.f1 l
def windowsS (l : List S32) : Int × Int := if l.length < 1 ∨ l.length > 4 then (-1, 43) else winS 0 (-1) l
theorem refWindows_l0 (xs : List S32) (hn : xs.length ≤ 4611686018427387904) : ∀ (d i : Nat) (lo : Int), i + d = xs.length → (lo = -1 ∧ i = 0 ∨ ∃ h : 0 < i ∧ i - 1 < xs.length, lo = (xs[i - 1]'h.2).f1) →
    Ev (fun k => haulierref09_Windows.l0 k xs (i : Int)) (winS i lo (xs.drop i)) := by
  intro d
  induction d with
  | zero =>
    intro i lo hi hlo
    refine Ev.step (fun _ => rfl) ?_
    simp only [haulierref09_Windows.l0]
    refine evNeg (by omega) (evNow ?_)
    rw [List.drop_of_length_le (by omega)]
    rfl
  | succ d ih =>
    intro i lo hi hlo
    have hlt : i < xs.length := by omega
    have next := ih (i + 1) xs[i].f1 (by omega) (.inr ⟨⟨by omega, by omega⟩, by simp⟩)
    rw [List.drop_eq_getElem_cons hlt, winS]
    have bad : xs[i].f0 < 0 ∨ xs[i].f1 > 1000000 ∨ xs[i].f0 > xs[i].f1 → Ev (fun k => haulierref09_Windows.j2 k xs (i : Int) true) (if xs[i].f0 < 0 ∨ xs[i].f1 > 1000000 ∨ xs[i].f0 > xs[i].f1 ∨ xs[i].f0 ≤ lo then ((i : Int), 2) else winS (i + 1) xs[i].f1 (xs.drop (i + 1))) := by
      intro hb
      refine Ev.step (fun _ => rfl) ?_
      simp only [haulierref09_Windows.j2]
      exact evPos (by simp) (evNow (if_pos (by omega)).symm)
    refine Ev.step (fun _ => rfl) ?_
    simp only [haulierref09_Windows.l0]
    refine evPos (by omega) (evPos (by omega) ?_)
    simp only [rdW xs i hlt]
    by_cases h1 : xs[i].f0 < 0
    · exact evPos h1 (bad (.inl h1))
    refine evNeg h1 ?_
    by_cases h2 : xs[i].f1 > 1000000
    · exact evPos h2 (bad (.inr (.inl h2)))
    refine evNeg h2 ?_
    by_cases h3 : xs[i].f0 > xs[i].f1
    · rw [decide_eq_true h3]
      exact bad (.inr (.inr h3))
    rw [decide_eq_false h3]
    refine Ev.step (fun _ => rfl) ?_
    simp only [haulierref09_Windows.j2]
    refine evNeg (by decide) ?_
    rcases hlo with ⟨rfl, rfl⟩ | ⟨⟨hi0, hi1⟩, rfl⟩
    · refine evNeg (by omega) ?_
      rw [wrap_succ hlt hn]
      exact evEq next (if_neg (by omega)).symm
    · refine evPos (by omega) (evPos (by omega) (evPos (by omega) ?_))
      rw [wrap_pred hi0 (by omega : i ≤ xs.length) hn, wrap_succ hlt hn]
      refine evPos (by omega) (evPos (by omega) ?_)
      simp only [rdW xs i hlt, rdW xs (i - 1) hi1]
      by_cases h4 : xs[i].f0 ≤ (xs[i - 1]'hi1).f1
      · exact evPos h4 (evNow (if_pos (by omega)).symm)
      · exact evNeg h4 (evEq next (if_neg (by omega)).symm)
theorem refWindows_ev (xs : List S32) (hn : xs.length ≤ 4611686018427387904) : Ev (fun k => haulierref09_Windows.f k xs) (windowsS xs) := by
  unfold haulierref09_Windows.f windowsS
  by_cases h1 : xs.length < 1
  · refine evPos (by omega) (Ev.step (fun _ => rfl) ?_)
    simp only [haulierref09_Windows.j0]
    exact evPos (by simp) (evNow (if_pos (by omega)).symm)
  refine evNeg (by omega) (Ev.step (fun _ => rfl) ?_)
  simp only [haulierref09_Windows.j0]
  by_cases h2 : xs.length > 4
  · exact evPos (by simp; omega) (evNow (if_pos (by omega)).symm)
  · refine evNeg (by simp; omega) ?_
    rw [if_neg (by omega)]
    simpa using refWindows_l0 xs hn xs.length 0 (-1) (by omega) (.inl ⟨rfl, rfl⟩)
theorem winS_ok : ∀ (l : List S32) (i lo : Int), -1 ≤ lo → ((winS i lo l).2 = 0 ↔ Srt lo l)
  | [], _, _, _ => by simp [winS, Srt]
  | w :: l, i, lo, h0 => by
    unfold winS Srt
    by_cases h : w.f0 < 0 ∨ w.f1 > 1000000 ∨ w.f0 > w.f1 ∨ w.f0 ≤ lo
    · rw [if_pos h]
      refine ⟨fun e => absurd e (by simp), fun e => ?_⟩
      obtain ⟨h1, h2, h3, _⟩ := e
      omega
    · rw [if_neg h, winS_ok l (i + 1) w.f1 (by omega)]
      constructor
      · intro hs
        exact ⟨by omega, by omega, by omega, hs⟩
      · intro hs
        exact hs.2.2.2
theorem windowsS_ok (l : List S32) : (windowsS l).2 = 0 ↔ okW l := by
  unfold windowsS okW
  by_cases h : l.length < 1 ∨ l.length > 4
  · rw [if_pos h]
    refine ⟨fun e => absurd e (by simp), fun e => ?_⟩
    obtain ⟨h1, h2, _⟩ := e
    omega
  · rw [if_neg h, winS_ok l 0 (-1) (by omega)]
    constructor
    · intro hs
      exact ⟨by omega, by omega, hs⟩
    · intro hs
      exact hs.2.2

theorem awake_ev : Ev (fun k => haulierlaw11_Awake.f k) true := Ev.of haulierlaw11_Awake.mono (k := 10) (by decide +kernel)

theorem check_l0 (xs : List S32) (hn : xs.length ≤ 4611686018427387904) : ∀ (d i : Nat) (lo : Int), i + d = xs.length → (lo = -1 ∧ i = 0 ∨ ∃ h : 0 < i ∧ i - 1 < xs.length, lo = (xs[i - 1]'h.2).f1) →
    Ev (fun k => hours_Check.l0 k xs xs (xs.length : Int) (i : Int)) (winS i lo (xs.drop i)) := by
  intro d
  induction d with
  | zero =>
    intro i lo hi hlo
    refine Ev.step (fun _ => rfl) ?_
    simp only [hours_Check.l0]
    refine evNeg (by omega) (evNow ?_)
    rw [List.drop_of_length_le (by omega)]
    rfl
  | succ d ih =>
    intro i lo hi hlo
    have hlt : i < xs.length := by omega
    have next := ih (i + 1) xs[i].f1 (by omega) (.inr ⟨⟨by omega, by omega⟩, by simp⟩)
    rw [List.drop_eq_getElem_cons hlt, winS]
    refine Ev.step (fun _ => rfl) ?_
    simp only [hours_Check.l0]
    refine evPos (by omega) (evPos (by omega) (evPos (by omega) ?_))
    simp only [rdW xs i hlt]
    by_cases h1 : xs[i].f0 < 0
    · exact evPos h1 (evNow (if_pos (by omega)).symm)
    refine evNeg h1 ?_
    by_cases h2 : xs[i].f1 > 1000000
    · exact evPos h2 (evNow (if_pos (by omega)).symm)
    refine evNeg h2 ?_
    by_cases h3 : xs[i].f0 > xs[i].f1
    · exact evPos h3 (evNow (if_pos (by omega)).symm)
    refine evNeg h3 ?_
    rcases hlo with ⟨rfl, rfl⟩ | ⟨⟨hi0, hi1⟩, rfl⟩
    · refine evNeg (by omega) ?_
      rw [wrap_succ hlt hn]
      exact evEq next (if_neg (by omega)).symm
    · refine evPos (by omega) ?_
      rw [wrap_pred hi0 (by omega : i ≤ xs.length) hn, wrap_succ hlt hn]
      refine evPos (by omega) (evPos (by omega) ?_)
      simp only [rdW xs i hlt, rdW xs (i - 1) hi1]
      by_cases h4 : xs[i].f0 ≤ (xs[i - 1]'hi1).f1
      · exact evPos h4 (evNow (if_pos (by omega)).symm)
      · exact evNeg h4 (evEq next (if_neg (by omega)).symm)
theorem check_ev (xs : List S32) (hn : xs.length ≤ 4611686018427387904) : Ev (fun k => hours_Check.f k xs) (windowsS xs) := by
  unfold hours_Check.f windowsS
  by_cases h1 : xs.length < 1
  · refine evPos (by omega) (Ev.step (fun _ => rfl) ?_)
    simp only [hours_Check.j0]
    exact evPos (by simp) (evNow (if_pos (by omega)).symm)
  refine evNeg (by omega) (Ev.step (fun _ => rfl) ?_)
  simp only [hours_Check.j0]
  by_cases h2 : xs.length > 4
  · exact evPos (by simp; omega) (evNow (if_pos (by omega)).symm)
  · refine evNeg (by simp; omega) ?_
    rw [if_neg (by omega)]
    simpa using check_l0 xs hn xs.length 0 (-1) (by omega) (.inl ⟨rfl, rfl⟩)
theorem law (l : List S32) (hl : l.length ≤ maxLen ∧ l.length * 16 ≤ 140737488351232 ∧ ∀ y ∈ l, G32 y) : ∃ k, haulierlaw11_HoursChecks.f k l = some true := by
  obtain ⟨_, hb, _⟩ := hl
  have hn : l.length ≤ 4611686018427387904 := by omega
  refine Ev.rounds (g := fun k => haulierlaw11_HoursChecks.f k l) ?_
  unfold haulierlaw11_HoursChecks.f
  refine Ev.bind awake_ev (evPos rfl (evSome (evPos (by simp; omega) ?_)))
  simp only [List.nil_append]
  exact Ev.bind (check_ev l hn) (Ev.bind (refWindows_ev l hn) (evPos rfl (evNow (by simp))))

end Go.Proofs.Ytoinhkilgijilaa.PHoursChecks
