/- What the printed functions about windows of time answer, in plain words, and the law that stands at the end.
Conditions: those of the law's own row. -/
import Derived.Test.YtoinhkilgijilaaMHoursWiderx
import Derived.Test.YtoinhkilgijilaaEvKit
import Derived.Test.YtoinhkilgijilaaKHoursWider
namespace Go.Proofs.Ytoinhkilgijilaa.MHoursWider
open Go.RowKit Go.Proofs.YtoinhkilgijilaaW.PrintWords Go.Proofs.YtoinhkilgijilaaW.PrintLast Go.Proofs.YtoinhkilgijilaaW.PrintMore Go.Proofs.Ytoinhkilgijilaa.EvKit
set_option linter.unusedVariables false
set_option linter.unusedSimpArgs false

/-! ### windows -/
theorem rdW (xs : List S32) (i : Nat) (h : i < xs.length) : rd_T32 xs (i : Int) = xs[i] := by
  simp [rd_T32, List.getElem?_eq_getElem h]
/-- Windows that Check allows: rising, apart, from lo on. -/
def Srt : Int → List S32 → Prop
  | _, [] => True
  | lo, w :: l => lo < w.f0 ∧ w.f0 ≤ w.f1 ∧ w.f1 ≤ 1000000 ∧ Srt w.f1 l
instance Srt.dec : ∀ (lo : Int) (l : List S32), Decidable (Srt lo l)
  | _, [] => isTrue trivial
  | lo, w :: l => by
    unfold Srt
    have := Srt.dec w.f1 l
    exact inferInstance
def okW (l : List S32) : Prop := 1 ≤ l.length ∧ l.length ≤ 4 ∧ Srt (-1) l
theorem Srt.mono {lo lo' : Int} {l : List S32} (h : Srt lo l) (hl : lo' ≤ lo) : Srt lo' l := by
  cases l with
  | nil => trivial
  | cons w l =>
    obtain ⟨h1, h2⟩ := h
    exact ⟨by omega, h2⟩
def startS (t : Int) : List S32 → Int × Bool
  | [] => (0, false)
  | w :: l => if t ≤ w.f1 then (mx t w.f0, true) else startS t l
def lastS (t : Int) : List S32 → Int × Bool
  | [] => (0, false)
  | w :: l => if (lastS t l).2 = true then lastS t l else if t ≥ w.f0 then (mn t w.f1, true) else (0, false)
theorem lastS_cons (t : Int) (w : S32) (l : List S32) : lastS t (w :: l) = if (lastS t l).2 = true then lastS t l else if t ≥ w.f0 then (mn t w.f1, true) else (0, false) := rfl

theorem hours_Start_l0 (t : Int) (xs : List S32) (hn : xs.length ≤ 4611686018427387904) : ∀ (d i : Nat), i + d = xs.length →
    Ev (fun k => hours_Start.l0 k t xs (xs.length : Int) (i : Int)) (startS t (xs.drop i)) := by
  intro d
  induction d with
  | zero =>
    intro i hi
    refine Ev.step (fun _ => rfl) ?_
    simp only [hours_Start.l0]
    refine evNeg (by omega) (evNow ?_)
    rw [List.drop_of_length_le (by omega)]
    rfl
  | succ d ih =>
    intro i hi
    refine Ev.step (fun _ => rfl) ?_
    simp only [hours_Start.l0]
    have hlt : i < xs.length := by omega
    rw [List.drop_eq_getElem_cons hlt, startS]
    refine evPos (by omega) (evPos (by omega) (evPos (by omega) ?_))
    simp only [rdW xs i hlt, wrap_succ hlt hn]
    exact evIte (fun _ => Ev.now _) (fun _ => ih (i + 1) (by omega))
theorem hours_Start_ev (t : Int) (xs : List S32) (hn : xs.length ≤ 4611686018427387904) : Ev (fun k => hours_Start.f k xs t) (startS t xs) := by
  have := hours_Start_l0 t xs hn xs.length 0 (by omega)
  simpa [hours_Start.f] using this

theorem lastS_snoc (t : Int) (w : S32) : ∀ l : List S32, lastS t (l ++ [w]) = if t ≥ w.f0 then (mn t w.f1, true) else lastS t l := by
  intro l
  induction l with
  | nil => by_cases h : t ≥ w.f0 <;> simp [lastS, h]
  | cons x l ih =>
    rw [List.cons_append, lastS_cons, ih]
    by_cases h : t ≥ w.f0
    · simp [h]
    · simp only [h, if_false]
      exact (lastS_cons t x l).symm
theorem hours_Last_l0 (t : Int) (xs : List S32) (hn : xs.length ≤ 4611686018427387904) : ∀ (i : Nat), i ≤ xs.length →
    Ev (fun k => hours_Last.l0 k xs t ((i : Int) - 1)) (lastS t (xs.take i)) := by
  intro i
  induction i with
  | zero =>
    intro hi
    refine Ev.step (fun _ => rfl) ?_
    simp only [hours_Last.l0]
    refine evNeg (by omega) (evNow ?_)
    rfl
  | succ i ih =>
    intro hi
    refine Ev.step (fun _ => rfl) ?_
    simp only [hours_Last.l0]
    have hlt : i < xs.length := by omega
    rw [List.take_succ_eq_append_getElem hlt, lastS_snoc]
    rw [show ((i + 1 : Nat) : Int) - 1 = (i : Int) by omega]
    refine evPos (by omega) (evPos (by omega) (evPos (by omega) ?_))
    simp only [rdW xs i hlt]
    rw [wrap_ok (by omega) (by omega)]
    exact evIte (fun _ => Ev.now _) (fun _ => ih (by omega))
theorem hours_Last_ev (t : Int) (xs : List S32) (hn : xs.length ≤ 4611686018427387904) : Ev (fun k => hours_Last.f k xs t) (lastS t xs) := by
  have := hours_Last_l0 t xs hn xs.length (by omega)
  rw [List.take_length] at this
  unfold hours_Last.f
  rw [wrap_ok (by omega) (by omega)]
  exact this

/-- What the document's Windows finds from place i on; lo: where the window ahead of it ends. -/
def winS : Int → Int → List S32 → Int × Int
  | _, _, [] => (-1, 0)
  | i, lo, w :: l => if w.f0 < 0 ∨ w.f1 > 1000000 ∨ w.f0 > w.f1 ∨ w.f0 ≤ lo then (i, 2) else winS (i + 1) w.f1 l
def windowsS (l : List S32) : Int × Int := if l.length < 1 ∨ l.length > 4 then (-1, 43) else winS 0 (-1) l
theorem refWindows_l0 (xs : List S32) (hn : xs.length ≤ 4611686018427387904) : ∀ (d i : Nat) (lo : Int), i + d = xs.length → (lo = -1 ∧ i = 0 ∨ ∃ h : 0 < i ∧ i - 1 < xs.length, lo = (xs[i - 1]'h.2).f1) →
    Ev (fun k => haulierref09_Windows.l0 k xs (i : Int)) (winS i lo (xs.drop i)) := by
  intro d
  induction d with
  | zero =>
    intro i lo hi hlo
    refine Ev.step (fun _ => rfl) ?_
    simp only [haulierref09_Windows.l0]
    refine evNeg (by omega) (evNow ?_)
    rw [List.drop_of_length_le (by omega)]
    rfl
  | succ d ih =>
    intro i lo hi hlo
    have hlt : i < xs.length := by omega
    have next := ih (i + 1) xs[i].f1 (by omega) (.inr ⟨⟨by omega, by omega⟩, by simp⟩)
    rw [List.drop_eq_getElem_cons hlt, winS]
    have bad : xs[i].f0 < 0 ∨ xs[i].f1 > 1000000 ∨ xs[i].f0 > xs[i].f1 → Ev (fun k => haulierref09_Windows.j2 k xs (i : Int) true) (if xs[i].f0 < 0 ∨ xs[i].f1 > 1000000 ∨ xs[i].f0 > xs[i].f1 ∨ xs[i].f0 ≤ lo then ((i : Int), 2) else winS (i + 1) xs[i].f1 (xs.drop (i + 1))) := by
      intro hb
      refine Ev.step (fun _ => rfl) ?_
      simp only [haulierref09_Windows.j2]
      exact evPos (by simp) (evNow (if_pos (by omega)).symm)
    refine Ev.step (fun _ => rfl) ?_
    simp only [haulierref09_Windows.l0]
    refine evPos (by omega) (evPos (by omega) ?_)
    simp only [rdW xs i hlt]
    by_cases h1 : xs[i].f0 < 0
    · exact evPos h1 (bad (.inl h1))
    refine evNeg h1 ?_
    by_cases h2 : xs[i].f1 > 1000000
    · exact evPos h2 (bad (.inr (.inl h2)))
    refine evNeg h2 ?_
    by_cases h3 : xs[i].f0 > xs[i].f1
    · rw [decide_eq_true h3]
      exact bad (.inr (.inr h3))
    rw [decide_eq_false h3]
    refine Ev.step (fun _ => rfl) ?_
    simp only [haulierref09_Windows.j2]
    refine evNeg (by decide) ?_
    rcases hlo with ⟨rfl, rfl⟩ | ⟨⟨hi0, hi1⟩, rfl⟩
    · refine evNeg (by omega) ?_
      rw [wrap_succ hlt hn]
      exact evEq next (if_neg (by omega)).symm
    · refine evPos (by omega) (evPos (by omega) (evPos (by omega) ?_))
      rw [wrap_pred hi0 (by omega : i ≤ xs.length) hn, wrap_succ hlt hn]
      refine evPos (by omega) (evPos (by omega) ?_)
      simp only [rdW xs i hlt, rdW xs (i - 1) hi1]
      by_cases h4 : xs[i].f0 ≤ (xs[i - 1]'hi1).f1
      · exact evPos h4 (evNow (if_pos (by omega)).symm)
      · exact evNeg h4 (evEq next (if_neg (by omega)).symm)
theorem refWindows_ev (xs : List S32) (hn : xs.length ≤ 4611686018427387904) : Ev (fun k => haulierref09_Windows.f k xs) (windowsS xs) := by
  unfold haulierref09_Windows.f windowsS
  by_cases h1 : xs.length < 1
  · refine evPos (by omega) (Ev.step (fun _ => rfl) ?_)
    simp only [haulierref09_Windows.j0]
    exact evPos (by simp) (evNow (if_pos (by omega)).symm)
  refine evNeg (by omega) (Ev.step (fun _ => rfl) ?_)
  simp only [haulierref09_Windows.j0]
  by_cases h2 : xs.length > 4
  · exact evPos (by simp; omega) (evNow (if_pos (by omega)).symm)
  · refine evNeg (by simp; omega) ?_
    rw [if_neg (by omega)]
    simpa using refWindows_l0 xs hn xs.length 0 (-1) (by omega) (.inl ⟨rfl, rfl⟩)
theorem winS_ok : ∀ (l : List S32) (i lo : Int), -1 ≤ lo → ((winS i lo l).2 = 0 ↔ Srt lo l)
  | [], _, _, _ => by simp [winS, Srt]
  | w :: l, i, lo, h0 => by
    unfold winS Srt
    by_cases h : w.f0 < 0 ∨ w.f1 > 1000000 ∨ w.f0 > w.f1 ∨ w.f0 ≤ lo
    · rw [if_pos h]
      refine ⟨fun e => absurd e (by simp), fun e => ?_⟩
      obtain ⟨h1, h2, h3, _⟩ := e
      omega
    · rw [if_neg h, winS_ok l (i + 1) w.f1 (by omega)]
      constructor
      · intro hs
        exact ⟨by omega, by omega, by omega, hs⟩
      · intro hs
        exact hs.2.2.2
theorem windowsS_ok (l : List S32) : (windowsS l).2 = 0 ↔ okW l := by
  unfold windowsS okW
  by_cases h : l.length < 1 ∨ l.length > 4
  · rw [if_pos h]
    refine ⟨fun e => absurd e (by simp), fun e => ?_⟩
    obtain ⟨h1, h2, _⟩ := e
    omega
  · rw [if_neg h, winS_ok l 0 (-1) (by omega)]
    constructor
    · intro hs
      exact ⟨by omega, by omega, hs⟩
    · intro hs
      exact hs.2.2

instance okW.dec (l : List S32) : Decidable (okW l) := by
  unfold okW
  exact inferInstance
theorem lawful_ev (xs : List S32) (hn : xs.length ≤ 4611686018427387904) : Ev (fun k => haulierlaw11_lawful.f k xs) (decide (okW xs)) := by
  unfold haulierlaw11_lawful.f
  refine Ev.bind (refWindows_ev xs hn) (evNow ?_)
  by_cases h : okW xs
  · have := (windowsS_ok xs).2 h
    simp [this, h]
  · have : ¬ (windowsS xs).2 = 0 := fun e => h ((windowsS_ok xs).1 e)
    simp [this, h]

theorem Srt.lo_lt : ∀ (l : List S32) (lo : Int), Srt lo l → ∀ v ∈ l, lo < v.f0
  | [], lo, _, v, hv => by simp at hv
  | w :: l, lo, h, v, hv => by
    obtain ⟨h1, h2, h3, h4⟩ := h
    rcases List.mem_cons.1 hv with rfl | hv
    · exact h1
    · have := Srt.lo_lt l w.f1 h4 v hv
      omega
/-- Start: not ahead of t, in a window, and nothing between is in one. -/
theorem startS_spec (t : Int) : ∀ (l : List S32) (lo : Int), Srt lo l → ((startS t l).2 = true → t ≤ (startS t l).1 ∧ (∃ w ∈ l, w.f0 ≤ (startS t l).1 ∧ (startS t l).1 ≤ w.f1) ∧ ∀ u, t ≤ u → u < (startS t l).1 → ¬ ∃ w ∈ l, w.f0 ≤ u ∧ u ≤ w.f1) ∧
      ((startS t l).2 = false → ∀ u, t ≤ u → ¬ ∃ w ∈ l, w.f0 ≤ u ∧ u ≤ w.f1)
  | [], _, _ => by simp [startS]
  | w :: l, lo, h => by
    obtain ⟨h1, h2, h3, h4⟩ := h
    have ih := startS_spec t l w.f1 h4
    rw [startS]
    by_cases ht : t ≤ w.f1
    · simp only [ht, if_true]
      refine ⟨fun _ => ⟨by unfold mx; split <;> omega, ⟨w, by simp, by unfold mx; split <;> omega, by unfold mx; split <;> omega⟩, ?_⟩, fun e => by simp at e⟩
      rintro u h5 h6 ⟨v, hv, h7, h8⟩
      rcases List.mem_cons.1 hv with rfl | hv
      · unfold mx at h6
        split at h6 <;> omega
      · have := Srt.lo_lt l w.f1 h4 v hv
        unfold mx at h6
        split at h6 <;> omega
    · simp only [ht, if_false]
      refine ⟨fun e => ?_, fun e u h5 => ?_⟩
      · obtain ⟨a, ⟨v, hv, b⟩, c⟩ := ih.1 e
        refine ⟨a, ⟨v, List.mem_cons_of_mem _ hv, b⟩, ?_⟩
        rintro u h5 h6 ⟨x, hx, h7, h8⟩
        rcases List.mem_cons.1 hx with rfl | hx
        · omega
        · exact c u h5 h6 ⟨x, hx, h7, h8⟩
      · rintro ⟨x, hx, h7, h8⟩
        rcases List.mem_cons.1 hx with rfl | hx
        · omega
        · exact ih.2 e u h5 ⟨x, hx, h7, h8⟩
/-- Last: not behind t, in a window, and nothing between is in one. -/
theorem lastS_spec (t : Int) : ∀ (l : List S32) (lo : Int), Srt lo l → ((lastS t l).2 = true → (lastS t l).1 ≤ t ∧ (∃ w ∈ l, w.f0 ≤ (lastS t l).1 ∧ (lastS t l).1 ≤ w.f1) ∧ ∀ u, u ≤ t → (lastS t l).1 < u → ¬ ∃ w ∈ l, w.f0 ≤ u ∧ u ≤ w.f1) ∧
      ((lastS t l).2 = false → ∀ u, u ≤ t → ¬ ∃ w ∈ l, w.f0 ≤ u ∧ u ≤ w.f1)
  | [], _, _ => by simp [lastS]
  | w :: l, lo, h => by
    obtain ⟨h1, h2, h3, h4⟩ := h
    have ih := lastS_spec t l w.f1 h4
    rw [lastS_cons]
    cases hl : (lastS t l).2 with
    | true =>
      simp only [if_true]
      obtain ⟨a, ⟨v, hv, b⟩, c⟩ := ih.1 hl
      have hlo := Srt.lo_lt l w.f1 h4 v hv
      refine ⟨fun _ => ⟨a, ⟨v, List.mem_cons_of_mem _ hv, b⟩, ?_⟩, fun e => by rw [hl] at e; simp at e⟩
      rintro u h5 h6 ⟨x, hx, h7, h8⟩
      rcases List.mem_cons.1 hx with rfl | hx
      · omega
      · exact c u h5 h6 ⟨x, hx, h7, h8⟩
    | false =>
      have no := ih.2 hl
      simp only [Bool.false_eq_true, if_false]
      by_cases ht : t ≥ w.f0
      · simp only [ht, if_true]
        refine ⟨fun _ => ⟨by unfold mn; split <;> omega, ⟨w, by simp, by unfold mn; split <;> omega, by unfold mn; split <;> omega⟩, ?_⟩, fun e => by simp at e⟩
        rintro u h5 h6 ⟨x, hx, h7, h8⟩
        rcases List.mem_cons.1 hx with rfl | hx
        · unfold mn at h6
          split at h6 <;> omega
        · exact no u h5 ⟨x, hx, h7, h8⟩
      · simp only [ht, if_false]
        refine ⟨fun e => by simp at e, fun _ u h5 => ?_⟩
        rintro ⟨x, hx, h7, h8⟩
        rcases List.mem_cons.1 hx with rfl | hx
        · omega
        · exact no u h5 ⟨x, hx, h7, h8⟩

theorem awake_ev : Ev (fun k => haulierlaw11_Awake.f k) true := Ev.of haulierlaw11_Awake.mono (k := 10) (by decide +kernel)

theorem Srt.bounds : ∀ (l : List S32) (lo : Int), Srt lo l → ∀ v ∈ l, lo < v.f0 ∧ v.f0 ≤ v.f1 ∧ v.f1 ≤ 1000000
  | [], lo, _, v, hv => by simp at hv
  | w :: l, lo, h, v, hv => by
    obtain ⟨h1, h2, h3, h4⟩ := h
    rcases List.mem_cons.1 hv with rfl | hv
    · exact ⟨h1, h2, h3⟩
    · have := Srt.bounds l w.f1 h4 v hv
      omega
theorem umod_range (x n : Int) (hn : 0 < n) (hn2 : n ≤ 4611686018427387904) : 0 ≤ wrap64 (Int.tmod (IntKind.u64.wrap x) n) ∧ wrap64 (Int.tmod (IntKind.u64.wrap x) n) < n := by
  have h : 0 ≤ IntKind.u64.wrap x := by
    simp [IntKind.wrap, IntKind.bits, IntKind.signed]
    omega
  generalize IntKind.u64.wrap x = y at h
  rw [Int.tmod_eq_emod_of_nonneg h]
  have h1 := Int.emod_nonneg y (by omega : n ≠ 0)
  have h2 := Int.emod_lt_of_pos y hn
  rw [wrap_ok (by omega) (by omega)]
  exact ⟨h1, h2⟩
theorem mem_wide (l : List S32) (i : Nat) (hi : i < l.length) (v : S32) (h0 : v.f0 ≤ l[i].f0) (h1 : l[i].f1 ≤ v.f1) (x : Int) (h : ∃ w ∈ l, w.f0 ≤ x ∧ x ≤ w.f1) : ∃ w ∈ l.set i v, w.f0 ≤ x ∧ x ≤ w.f1 := by
  obtain ⟨w, hw, a, b⟩ := h
  obtain ⟨j, hj, rfl⟩ := List.getElem_of_mem hw
  by_cases e : j = i
  · subst e
    exact ⟨v, List.mem_iff_getElem.2 ⟨j, by simpa using hi, by simp⟩, by omega, by omega⟩
  · exact ⟨l[j], List.mem_iff_getElem.2 ⟨j, by simpa using hj, by rw [List.getElem_set_ne (by omega)]⟩, a, b⟩
theorem law (l : List S32) (i t by_ : Int) (hl : l.length ≤ maxLen ∧ l.length * 16 ≤ 140737488351232 ∧ ∀ y ∈ l, G32 y) (hi : (Lit.int .i64 i).wf = true) (ht : (Lit.int .i64 t).wf = true) (hb : (Lit.int .i64 by_).wf = true) :
    ∃ k, haulierlaw11_HoursWider.f k l i t by_ = some true := by
  obtain ⟨_, hsz, _⟩ := hl
  have hn : l.length ≤ 4611686018427387904 := by omega
  refine Ev.rounds (g := fun k => haulierlaw11_HoursWider.f k l i t by_) ?_
  unfold haulierlaw11_HoursWider.f
  refine Ev.bind awake_ev (evPos rfl (Ev.bind (lawful_ev l hn) ?_))
  by_cases hno : ¬ okW l
  · exact evNeg (by simp [hno]) (Ev.now _)
  have h : okW l := Decidable.not_not.1 hno
  have hlen : l.length ≤ 4 := h.2.1
  have hpos : 1 ≤ l.length := h.1
  refine evPos (by simp [h]) (evSome (evPos (by simp; omega) (evSome ?_)))
  simp only [List.nil_append]
  have e0 : IntKind.u64.wrap ((l.length : Int)) = (l.length : Int) := by
    simp [IntKind.wrap, IntKind.bits, IntKind.signed]
    omega
  rw [e0]
  obtain ⟨r0, r1⟩ := umod_range i (l.length : Int) (by omega) (by omega)
  obtain ⟨b0, b1⟩ := umod_range by_ 50 (by omega) (by omega)
  generalize wrap64 (Int.tmod (IntKind.u64.wrap i) (l.length : Int)) = q at r0 r1
  generalize wrap64 (Int.tmod (IntKind.u64.wrap by_) 50) = c at b0 b1
  obtain ⟨j, rfl⟩ : ∃ j : Nat, q = (j : Int) := ⟨q.toNat, by omega⟩
  have hj : j < l.length := by omega
  have hb := Srt.bounds l _ h.2.2 l[j] (List.getElem_mem hj)
  refine evNeg (by omega) (evPos (by omega) (evPos (by omega) (evSome (evSome ?_))))
  have hrd : rd_T32 l (j : Int) = l[j] := rdW l j hj
  have hset : (((l.set j ⟨wrap64 (l[j].f0 - c), l[j].f1⟩).set j ⟨(rd_T32 (l.set j ⟨wrap64 (l[j].f0 - c), l[j].f1⟩) (j : Int)).f0, wrap64 (l[j].f1 + c)⟩) : List S32) = l.set j ⟨l[j].f0 - c, l[j].f1 + c⟩ := by
    rw [rdW _ j (by simpa using hj), List.getElem_set_self, List.set_set, wrap_ok (n := l[j].f0 - c) (by omega) (by omega), wrap_ok (n := l[j].f1 + c) (by omega) (by omega)]
  simp only [Int.toNat_natCast, hrd, hset]
  have hlw : (l.set j (⟨l[j].f0 - c, l[j].f1 + c⟩ : S32)).length = l.length := by simp
  generalize hW : l.set j (⟨l[j].f0 - c, l[j].f1 + c⟩ : S32) = wide at hlw
  have wider : ∀ x : Int, (∃ w ∈ l, w.f0 ≤ x ∧ x ≤ w.f1) → ∃ w ∈ wide, w.f0 ≤ x ∧ x ≤ w.f1 := by
    intro x hx
    rw [← hW]
    exact mem_wide l j hj _ (by show l[j].f0 - c ≤ _; omega) (by show _ ≤ l[j].f1 + c; omega) x hx
  refine Ev.bind (lawful_ev wide (by omega)) ?_
  by_cases hw' : ¬ okW wide
  · exact evNeg (by simp [hw']) (Ev.now _)
  have hw : okW wide := Decidable.not_not.1 hw'
  refine evPos (by simp [hw]) (evSome (evPos (by simp; omega) ?_))
  simp only [List.nil_append]
  refine Ev.bind (hours_Start_ev t l hn) (Ev.bind (hours_Start_ev t wide (by omega)) (evSome (evPos (by simp; omega) ?_)))
  refine Ev.bind (hours_Last_ev t l hn) (Ev.bind (hours_Last_ev t wide (by omega)) ?_)
  have s1 := startS_spec t l _ h.2.2
  have s2 := startS_spec t wide _ hw.2.2
  have l1 := lastS_spec t l _ h.2.2
  have l2 := lastS_spec t wide _ hw.2.2
  have last : Ev (fun _ : Nat => if (lastS t l).2 = true then (if (lastS t wide).2 = true then (some (decide ((lastS t wide).1 ≥ (lastS t l).1))) else (some false)) else (some true)) true := by
    cases hal : (lastS t l).2 with
    | false => exact evNeg (by simp) (Ev.now _)
    | true =>
      obtain ⟨a, b, _⟩ := l1.1 hal
      have b' := wider _ b
      refine evPos rfl ?_
      cases hdo : (lastS t wide).2 with
      | false => exact absurd b' (l2.2 hdo _ a)
      | true =>
        obtain ⟨_, _, n2⟩ := l2.1 hdo
        refine evPos rfl (evNow ?_)
        simp only [ge_iff_le, decide_eq_true_eq]
        by_cases hlt : (lastS t wide).1 < (lastS t l).1
        · exact absurd b' (n2 _ a hlt)
        · omega
  cases hao : (startS t l).2 with
  | false => exact evNeg (by simp) last
  | true =>
    obtain ⟨a, b, _⟩ := s1.1 hao
    have b' := wider _ b
    refine evPos rfl ?_
    cases hbo : (startS t wide).2 with
    | false => exact absurd b' (s2.2 hbo _ a)
    | true =>
      obtain ⟨_, _, n2⟩ := s2.1 hbo
      refine evPos rfl (evPos ?_ last)
      by_cases hlt : (startS t l).1 < (startS t wide).1
      · exact absurd b' (n2 _ a hlt)
      · omega

end Go.Proofs.Ytoinhkilgijilaa.MHoursWider
