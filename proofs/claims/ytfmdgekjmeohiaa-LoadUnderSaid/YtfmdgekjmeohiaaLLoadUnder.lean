/- What the printed functions about amounts answer, in plain words, and the law that stands at the end.
Conditions: those of the law's own row. -/
import Derived.Test.YtfmdgekjmeohiaaMLoadUnderx
import Derived.Test.YtfmdgekjmeohiaaEvKit
namespace Go.Proofs.Ytfmdgekjmeohiaa.MLoadUnder
open Go.RowKit Go.Proofs.YtfmdgekjmeohiaaW.PrintWords Go.Proofs.YtfmdgekjmeohiaaW.PrintLast Go.Proofs.YtfmdgekjmeohiaaW.PrintMore Go.Proofs.Ytfmdgekjmeohiaa.EvKit
set_option linter.unusedVariables false
set_option linter.unusedSimpArgs false

theorem rdI (xs : List Int) (i : Nat) (h : i < xs.length) : rd xs (i : Int) = xs[i] := by
  simp [rd, List.getElem?_eq_getElem h]
/-- Dimension by dimension, up to the first error. -/
def eachL (g : Int → Int → Int × Int) : List Int → List Int → List Int → List Int × Int
  | acc, x :: a, y :: b => if (g x y).2 = 0 then eachL g (acc ++ [(g x y).1]) a b else ([], (g x y).2)
  | acc, _, _ => (acc, 0)
def eachS (g : Int → Int → Int × Int) (a b : List Int) : List Int × Int := if a.length = b.length then eachL g [] a b else ([], 43)
def underL : List Int → List Int → Bool
  | x :: a, y :: b => if x > y then false else underL a b
  | _, _ => true
def underS (a b : List Int) : Bool := if a.length = b.length then underL a b else false
theorem underL_refl : ∀ a, underL a a = true
  | [] => rfl
  | x :: a => by
    unfold underL
    rw [if_neg (by omega), underL_refl a]
theorem underL_trans : ∀ a b c, a.length = b.length → b.length = c.length → underL a b = true → underL b c = true → underL a c = true
  | [], _, _, _, _, _, _ => by simp [underL]
  | x :: a, [], _, h, _, _, _ => by simp at h
  | x :: a, y :: b, [], _, h, _, _ => by simp at h
  | x :: a, y :: b, z :: c, h, h', h1, h2 => by
    unfold underL at h1 h2 ⊢
    split at h1
    · simp at h1
    split at h2
    · simp at h2
    rw [if_neg (by omega)]
    exact underL_trans a b c (by simpa using h) (by simpa using h') h1 h2

theorem under_l0 (a b : List Int) (hn : a.length ≤ 4611686018427387904) (he : a.length = b.length) : ∀ (d i : Nat), i + d = a.length →
    Ev (fun k => load_Under.l0 k a b (a.length : Int) (i : Int)) (underL (a.drop i) (b.drop i)) := by
  intro d
  induction d with
  | zero =>
    intro i hi
    refine Ev.step (fun _ => rfl) ?_
    simp only [load_Under.l0]
    refine evNeg (by omega) (evNow ?_)
    rw [List.drop_of_length_le (by omega)]
    rfl
  | succ d ih =>
    intro i hi
    have hlt : i < a.length := by omega
    have hlt' : i < b.length := by omega
    refine Ev.step (fun _ => rfl) ?_
    simp only [load_Under.l0]
    rw [List.drop_eq_getElem_cons hlt, List.drop_eq_getElem_cons hlt', underL]
    refine evPos (by omega) (evPos (by omega) (evPos (by omega) (evPos (by omega) ?_)))
    simp only [rdI a i hlt, rdI b i hlt', wrap_succ hlt hn]
    exact evIte (fun _ => Ev.now _) (fun _ => ih (i + 1) (by omega))
theorem under_ev (a b : List Int) (hn : a.length ≤ 4611686018427387904) : Ev (fun k => load_Under.f k a b) (underS a b) := by
  unfold load_Under.f underS
  by_cases h : a.length = b.length
  · refine evPos (by omega) ?_
    rw [if_pos h]
    simpa using under_l0 a b hn h a.length 0 (by omega)
  · refine evNeg (by omega) (evNow ?_)
    rw [if_neg h]

def mostS (x y : Int) : Int × Int := (mx x y, 0)
theorem load_Most_1_eq (x y : Int) : load_Most_1.f x y = some (mostS x y) := rfl
theorem most_ok : ∀ (a b acc : List Int), a.length = b.length → (eachL mostS acc a b) = (acc ++ List.zipWith mx a b, 0)
  | [], [], acc, _ => by simp [eachL]
  | [], _ :: _, _, h => by simp at h
  | _ :: _, [], _, h => by simp at h
  | x :: a, y :: b, acc, h => by
    unfold eachL
    rw [if_pos (show (mostS x y).2 = 0 from rfl), most_ok a b _ (by simpa using h)]
    simp [mostS]
theorem under_most : ∀ (a b c : List Int), a.length = b.length → b.length = c.length → underL a b = true → underL a (List.zipWith mx b c) = true
  | [], _, _, _, _, _ => by simp [underL]
  | x :: a, [], _, h, _, _ => by simp at h
  | x :: a, y :: b, [], _, h, _ => by simp at h
  | x :: a, y :: b, z :: c, h, h', h1 => by
    rw [List.zipWith_cons_cons]
    unfold underL at h1 ⊢
    split at h1
    · simp at h1
    rw [if_neg (by unfold mx; split <;> omega)]
    exact under_most a b c (by simpa using h) (by simpa using h') h1

theorem each_l0_22 (a b : List Int) (hn : a.length ≤ 17592186044415) (he : a.length = b.length) : ∀ (d i : Nat) (acc : List Int), i + d = a.length → acc.length ≤ i →
    Ev (fun k => load_each_22.l0 k a b acc (a.length : Int) (i : Int)) (eachL mostS acc (a.drop i) (b.drop i)) := by
  intro d
  induction d with
  | zero =>
    intro i acc hi ha
    refine Ev.step (fun _ => rfl) ?_
    simp only [load_each_22.l0]
    refine evNeg (by omega) (evNow ?_)
    rw [List.drop_of_length_le (by omega)]
    rfl
  | succ d ih =>
    intro i acc hi ha
    have hlt : i < a.length := by omega
    have hlt' : i < b.length := by omega
    refine Ev.step (fun _ => rfl) ?_
    simp only [load_each_22.l0]
    rw [List.drop_eq_getElem_cons hlt, List.drop_eq_getElem_cons hlt', eachL]
    refine evPos (by omega) (evPos (by omega) (evPos (by omega) (evPos (by omega) ?_)))
    simp only [rdI a i hlt, rdI b i hlt', wrap_succ hlt (by omega : a.length ≤ 4611686018427387904), load_Most_1_eq]
    refine evSome (evIte (fun _ => ?_) (fun _ => Ev.now _))
    exact evPos (by omega) (ih (i + 1) _ (by omega) (by simp; omega))
theorem each_ev_22 (a b : List Int) (hn : a.length ≤ 17592186044415) : Ev (fun k => load_Most.f k a b) (eachS mostS a b) := by
  unfold load_Most.f
  refine Ev.bind (a := eachS mostS a b) ?_ (Ev.now _)
  unfold load_each_22.f eachS
  by_cases h : a.length = b.length
  · refine evPos (by omega) ?_
    rw [if_pos h]
    simpa using each_l0_22 a b hn h a.length 0 [] (by omega) (by simp)
  · refine evNeg (by omega) (evNow ?_)
    rw [if_neg h]

theorem awake_ev : Ev (fun k => haulierlaw09_Awake.f k) true := Ev.of haulierlaw09_Awake.mono (k := 10) (by decide +kernel)
theorem LoadUnder : haulierlaw09_LoadUnder.Pure := by
  intro a b c _ ha _ _ hb _ _ hc _
  refine Ev.rounds (g := fun k => haulierlaw09_LoadUnder.f k a b c) ?_
  unfold haulierlaw09_LoadUnder.f
  have early : Ev (fun k => haulierlaw09_LoadUnder.j0 k a b c true) true := by
    refine Ev.step (fun _ => rfl) ?_
    simp only [haulierlaw09_LoadUnder.j0]
    exact evPos (by simp) (Ev.now _)
  refine Ev.bind awake_ev (evPos rfl ?_)
  by_cases h1 : (a.length : Int) > 500
  · exact evPos h1 early
  refine evNeg h1 ?_
  by_cases h2 : (b.length : Int) > 500
  · exact evPos h2 early
  refine evNeg h2 ?_
  by_cases h3 : (c.length : Int) > 500
  · rw [decide_eq_true h3]
    exact early
  rw [decide_eq_false h3]
  refine Ev.step (fun _ => rfl) ?_
  simp only [haulierlaw09_LoadUnder.j0]
  refine evNeg (by simp) (evSome (evPos (by simp; omega) (evSome (evPos (by simp; omega) ?_))))
  simp only [List.nil_append]
  refine Ev.bind (each_ev_22 b c (by omega)) (Ev.bind (under_ev a a (by omega)) (evPos (by simp [underS, underL_refl]) (Ev.bind (under_ev a b (by omega)) ?_)))
  -- what stands behind the first test
  have second : Ev (fun k => haulierlaw09_LoadUnder.j1 k a b (eachS mostS b c).1 (eachS mostS b c).2 false) true := by
    refine Ev.step (fun _ => rfl) ?_
    simp only [haulierlaw09_LoadUnder.j1]
    refine evNeg (by simp) ?_
    by_cases he : (eachS mostS b c).2 = 0
    · refine evPos he (Ev.bind (under_ev a b (by omega)) ?_)
      by_cases hu : underS a b = true
      · refine evPos hu (Ev.bind (under_ev a _ (by omega)) (evNow ?_))
        unfold eachS at he ⊢
        by_cases hl : b.length = c.length
        · rw [if_pos hl, most_ok b c [] hl]
          unfold underS at hu ⊢
          by_cases hab : a.length = b.length
          · rw [if_pos hab] at hu
            rw [if_pos (by simp; omega)]
            exact under_most a b c hab hl hu
          · rw [if_neg hab] at hu
            simp at hu
        · rw [if_neg hl] at he
          simp at he
      · exact evNeg hu (Ev.now _)
    · exact evNeg he (Ev.now _)
  by_cases hab : underS a b = true
  · refine evPos hab (Ev.bind (under_ev b c (by omega)) ?_)
    by_cases hbc : underS b c = true
    · refine evPos hbc (Ev.bind (under_ev a c (by omega)) ?_)
      have : underS a c = true := by
        unfold underS at hab hbc ⊢
        split at hab
        · split at hbc
          · rename_i e1 e2
            rw [if_pos (by omega)]
            exact underL_trans a b c e1 e2 hab hbc
          · simp at hbc
        · simp at hab
      rw [this]
      exact second
    · exact evNeg hbc second
  · exact evNeg hab second

end Go.Proofs.Ytfmdgekjmeohiaa.MLoadUnder
