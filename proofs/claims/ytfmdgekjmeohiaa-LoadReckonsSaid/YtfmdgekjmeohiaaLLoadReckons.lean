/- What the printed functions about amounts answer, in plain words, and the law that stands at the end.
Conditions: those of the law's own row. -/
import Derived.Test.YtfmdgekjmeohiaaMLoadReckonsx
import Derived.Test.YtfmdgekjmeohiaaEvKit
namespace Go.Proofs.Ytfmdgekjmeohiaa.MLoadReckons
open Go.RowKit Go.Proofs.YtfmdgekjmeohiaaW.PrintWords Go.Proofs.YtfmdgekjmeohiaaW.PrintLast Go.Proofs.YtfmdgekjmeohiaaW.PrintMore Go.Proofs.Ytfmdgekjmeohiaa.EvKit
set_option linter.unusedVariables false
set_option linter.unusedSimpArgs false

theorem rdI (xs : List Int) (i : Nat) (h : i < xs.length) : rd xs (i : Int) = xs[i] := by
  simp [rd, List.getElem?_eq_getElem h]
/-- Dimension by dimension, up to the first error. -/
def eachL (g : Int → Int → Int × Int) : List Int → List Int → List Int → List Int × Int
  | acc, x :: a, y :: b => if (g x y).2 = 0 then eachL g (acc ++ [(g x y).1]) a b else ([], (g x y).2)
  | acc, _, _ => (acc, 0)
def eachS (g : Int → Int → Int × Int) (a b : List Int) : List Int × Int := if a.length = b.length then eachL g [] a b else ([], 43)
def underL : List Int → List Int → Bool
  | x :: a, y :: b => if x > y then false else underL a b
  | _, _ => true
def underS (a b : List Int) : Bool := if a.length = b.length then underL a b else false
theorem underL_refl : ∀ a, underL a a = true
  | [] => rfl
  | x :: a => by
    unfold underL
    rw [if_neg (by omega), underL_refl a]
theorem underL_trans : ∀ a b c, a.length = b.length → b.length = c.length → underL a b = true → underL b c = true → underL a c = true
  | [], _, _, _, _, _, _ => by simp [underL]
  | x :: a, [], _, h, _, _, _ => by simp at h
  | x :: a, y :: b, [], _, h, _, _ => by simp at h
  | x :: a, y :: b, z :: c, h, h', h1, h2 => by
    unfold underL at h1 h2 ⊢
    split at h1
    · simp at h1
    split at h2
    · simp at h2
    rw [if_neg (by omega)]
    exact underL_trans a b c (by simpa using h) (by simpa using h') h1 h2

theorem under_l0 (a b : List Int) (hn : a.length ≤ 4611686018427387904) (he : a.length = b.length) : ∀ (d i : Nat), i + d = a.length →
    Ev (fun k => load_Under.l0 k a b (a.length : Int) (i : Int)) (underL (a.drop i) (b.drop i)) := by
  intro d
  induction d with
  | zero =>
    intro i hi
    refine Ev.step (fun _ => rfl) ?_
    simp only [load_Under.l0]
    refine evNeg (by omega) (evNow ?_)
    rw [List.drop_of_length_le (by omega)]
    rfl
  | succ d ih =>
    intro i hi
    have hlt : i < a.length := by omega
    have hlt' : i < b.length := by omega
    refine Ev.step (fun _ => rfl) ?_
    simp only [load_Under.l0]
    rw [List.drop_eq_getElem_cons hlt, List.drop_eq_getElem_cons hlt', underL]
    refine evPos (by omega) (evPos (by omega) (evPos (by omega) (evPos (by omega) ?_)))
    simp only [rdI a i hlt, rdI b i hlt', wrap_succ hlt hn]
    exact evIte (fun _ => Ev.now _) (fun _ => ih (i + 1) (by omega))
theorem under_ev (a b : List Int) (hn : a.length ≤ 4611686018427387904) : Ev (fun k => load_Under.f k a b) (underS a b) := by
  unfold load_Under.f underS
  by_cases h : a.length = b.length
  · refine evPos (by omega) ?_
    rw [if_pos h]
    simpa using under_l0 a b hn h a.length 0 (by omega)
  · refine evNeg (by omega) (evNow ?_)
    rw [if_neg h]

def checkL : List Int → Int
  | [] => 0
  | x :: l => if x < 0 then 2 else if x > 1000000 then 2 else checkL l
def checkS (a : List Int) (n : Int) : Int := if (a.length : Int) = n then checkL a else 43
theorem check_l0 (a : List Int) (hn : a.length ≤ 4611686018427387904) : ∀ (d i : Nat), i + d = a.length →
    Ev (fun k => load_Check.l0 k a (a.length : Int) (i : Int)) (checkL (a.drop i)) := by
  intro d
  induction d with
  | zero =>
    intro i hi
    refine Ev.step (fun _ => rfl) ?_
    simp only [load_Check.l0]
    refine evNeg (by omega) (evNow ?_)
    rw [List.drop_of_length_le (by omega)]
    rfl
  | succ d ih =>
    intro i hi
    have hlt : i < a.length := by omega
    refine Ev.step (fun _ => rfl) ?_
    simp only [load_Check.l0]
    rw [List.drop_eq_getElem_cons hlt, checkL]
    refine evPos (by omega) (evPos (by omega) (evPos (by omega) ?_))
    simp only [rdI a i hlt, wrap_succ hlt hn]
    exact evIte (fun _ => Ev.now _) (fun _ => evIte (fun _ => Ev.now _) (fun _ => ih (i + 1) (by omega)))
theorem check_ev (a : List Int) (n : Int) (hn : a.length ≤ 4611686018427387904) : Ev (fun k => load_Check.f k a n) (checkS a n) := by
  unfold load_Check.f checkS
  refine evIte (fun _ => ?_) (fun _ => Ev.now _)
  simpa using check_l0 a hn a.length 0 (by omega)
theorem checkL_ok : ∀ a : List Int, checkL a = 0 → ∀ x ∈ a, 0 ≤ x ∧ x ≤ 1000000
  | [], _, x, hx => by simp at hx
  | y :: l, h, x, hx => by
    unfold checkL at h
    split at h
    · simp at h
    split at h
    · simp at h
    rcases List.mem_cons.1 hx with rfl | hx
    · omega
    · exact checkL_ok l h x hx
theorem checkL_zero : ∀ n : Nat, checkL (List.replicate n 0) = 0
  | 0 => rfl
  | n + 1 => by
    rw [List.replicate_succ]
    unfold checkL
    rw [if_neg (by omega), if_neg (by omega), checkL_zero n]

theorem zero_eq (n : Int) (h0 : 0 ≤ n) (h3 : n ≤ 3) : load_Zero.f n = some (List.replicate n.toNat 0) := by
  unfold load_Zero.f
  rw [if_neg (by omega), if_neg (by omega), if_pos h0, if_pos (by omega)]

def mostS (x y : Int) : Int × Int := (mx x y, 0)
theorem load_Most_1_eq (x y : Int) : load_Most_1.f x y = some (mostS x y) := rfl
theorem most_ok : ∀ (a b acc : List Int), a.length = b.length → (eachL mostS acc a b) = (acc ++ List.zipWith mx a b, 0)
  | [], [], acc, _ => by simp [eachL]
  | [], _ :: _, _, h => by simp at h
  | _ :: _, [], _, h => by simp at h
  | x :: a, y :: b, acc, h => by
    unfold eachL
    rw [if_pos (show (mostS x y).2 = 0 from rfl), most_ok a b _ (by simpa using h)]
    simp [mostS]
theorem under_most : ∀ (a b c : List Int), a.length = b.length → b.length = c.length → underL a b = true → underL a (List.zipWith mx b c) = true
  | [], _, _, _, _, _ => by simp [underL]
  | x :: a, [], _, h, _, _ => by simp at h
  | x :: a, y :: b, [], _, h, _ => by simp at h
  | x :: a, y :: b, z :: c, h, h', h1 => by
    rw [List.zipWith_cons_cons]
    unfold underL at h1 ⊢
    split at h1
    · simp at h1
    rw [if_neg (by unfold mx; split <;> omega)]
    exact under_most a b c (by simpa using h) (by simpa using h') h1

def fits (x : Int) : Prop := -4611686018427387903 ≤ x ∧ x ≤ 4611686018427387903
instance (x : Int) : Decidable (fits x) := by unfold fits; exact inferInstance
theorem num_Fits_eq (x : Int) : num_Fits.f x = some (decide (fits x)) := by
  unfold num_Fits.f fits
  by_cases h : x ≥ -4611686018427387903
  · rw [if_pos h]
    simp [show (-4611686018427387903 : Int) ≤ x from h]
  · rw [if_neg h]
    simp [show ¬ (-4611686018427387903 : Int) ≤ x from h]
def addS (x y : Int) : Int × Int := if fits x ∧ fits y ∧ fits (x + y) then (x + y, 0) else (0, 10)
theorem num_Add_eq (x y : Int) : num_Add.f x y = some (addS x y) := by
  unfold num_Add.f addS
  simp only [num_Fits_eq, Option.bind_some, decide_eq_true_eq]
  by_cases h1 : fits x
  · by_cases h2 : fits y
    · have : wrap64 (x + y) = x + y := by
        unfold fits at h1 h2
        exact wrap_ok (by omega) (by omega)
      rw [this]
      by_cases h3 : fits (x + y) <;> simp [h1, h2, h3]
    · simp [h1, h2]
  · simp [h1]
theorem addS_comm (x y : Int) : addS x y = addS y x := by
  unfold addS
  rw [Int.add_comm y x]
  by_cases h : fits x ∧ fits y ∧ fits (x + y)
  · rw [if_pos h, if_pos ⟨h.2.1, h.1, h.2.2⟩]
  · rw [if_neg h, if_neg (fun h' => h ⟨h'.2.1, h'.1, h'.2.2⟩)]
theorem add_comm_l : ∀ (a b acc : List Int), eachL addS acc a b = eachL addS acc b a
  | [], [], _ => rfl
  | [], _ :: _, _ => rfl
  | _ :: _, [], _ => rfl
  | x :: a, y :: b, acc => by
    unfold eachL
    rw [addS_comm y x]
    split
    · exact add_comm_l a b _
    · rfl
theorem each_bad (g : Int → Int → Int × Int) : ∀ (a b acc : List Int), (eachL g acc a b).2 ≠ 0 → (eachL g acc a b).1 = []
  | [], _, _, h => by simp [eachL] at h
  | _ :: _, [], _, h => by simp [eachL] at h
  | x :: a, y :: b, acc, h => by
    unfold eachL at h ⊢
    split
    · rename_i h0
      rw [if_pos h0] at h
      exact each_bad g a b _ h
    · rfl
/-- What an addition that went well holds. -/
theorem add_ok : ∀ (a b acc : List Int), (eachL addS acc a b).2 = 0 → a.length = b.length → (eachL addS acc a b).1 = acc ++ List.zipWith (· + ·) a b ∧ ∀ i (h : i < a.length) (h' : i < b.length), fits a[i] ∧ fits b[i] ∧ fits (a[i] + b[i])
  | [], [], _, _, _ => by simp [eachL]
  | [], _ :: _, _, _, h => by simp at h
  | _ :: _, [], _, _, h => by simp at h
  | x :: a, y :: b, acc, h0, h => by
    unfold eachL at h0 ⊢
    split at h0
    · rename_i hg
      rw [if_pos hg]
      have hf : fits x ∧ fits y ∧ fits (x + y) := by
        by_cases hf : fits x ∧ fits y ∧ fits (x + y)
        · exact hf
        · rw [addS, if_neg hf] at hg
          simp at hg
      obtain ⟨h1, h2⟩ := add_ok a b _ h0 (by simpa using h)
      refine ⟨?_, ?_⟩
      · rw [h1, addS, if_pos hf]
        simp
      · intro i hi hi'
        cases i with
        | zero => exact hf
        | succ i => exact h2 i (by simpa using hi) (by simpa using hi')
    · contradiction

def subS (x y : Int) : Int × Int := if fits y then addS x (-y) else (0, 10)
theorem load_Sub_1_eq (x y : Int) : load_Sub_1.f x y = some (subS x y) := by
  unfold load_Sub_1.f subS
  simp only [num_Fits_eq, Option.bind_some, decide_eq_true_eq]
  by_cases h : fits y
  · have : wrap64 (-y) = -y := by
      unfold fits at h
      exact wrap_ok (by omega) (by omega)
    simp [h, this, num_Add_eq]
  · simp [h]
theorem sub_back : ∀ (a b acc : List Int), a.length = b.length → (∀ i (h : i < a.length) (h' : i < b.length), fits a[i] ∧ fits b[i] ∧ fits (a[i] + b[i])) → eachL subS acc (List.zipWith (· + ·) a b) b = (acc ++ a, 0)
  | [], [], _, _, _ => by simp [eachL]
  | [], _ :: _, _, h, _ => by simp at h
  | _ :: _, [], _, h, _ => by simp at h
  | x :: a, y :: b, acc, h, hf => by
    obtain ⟨h1, h2, h3⟩ := hf 0 (by simp) (by simp)
    simp only [List.getElem_cons_zero] at h1 h2 h3
    rw [List.zipWith_cons_cons]
    unfold eachL
    have e : subS (x + y) y = (x, 0) := by
      unfold subS addS
      rw [if_pos h2, if_pos]
      · rw [show x + y + -y = x by omega]
      · rw [show x + y + -y = x by omega]
        unfold fits at h2 ⊢
        exact ⟨h3, by omega, h1⟩
    rw [e, if_pos rfl, sub_back a b _ (by simpa using h) (fun i hi hi' => hf (i + 1) (by simpa using hi) (by simpa using hi'))]
    simp

theorem each_l0_22 (a b : List Int) (hn : a.length ≤ 17592186044415) (he : a.length = b.length) : ∀ (d i : Nat) (acc : List Int), i + d = a.length → acc.length ≤ i →
    Ev (fun k => load_each_22.l0 k a b acc (a.length : Int) (i : Int)) (eachL mostS acc (a.drop i) (b.drop i)) := by
  intro d
  induction d with
  | zero =>
    intro i acc hi ha
    refine Ev.step (fun _ => rfl) ?_
    simp only [load_each_22.l0]
    refine evNeg (by omega) (evNow ?_)
    rw [List.drop_of_length_le (by omega)]
    rfl
  | succ d ih =>
    intro i acc hi ha
    have hlt : i < a.length := by omega
    have hlt' : i < b.length := by omega
    refine Ev.step (fun _ => rfl) ?_
    simp only [load_each_22.l0]
    rw [List.drop_eq_getElem_cons hlt, List.drop_eq_getElem_cons hlt', eachL]
    refine evPos (by omega) (evPos (by omega) (evPos (by omega) (evPos (by omega) ?_)))
    simp only [rdI a i hlt, rdI b i hlt', wrap_succ hlt (by omega : a.length ≤ 4611686018427387904), load_Most_1_eq]
    refine evSome (evIte (fun _ => ?_) (fun _ => Ev.now _))
    exact evPos (by omega) (ih (i + 1) _ (by omega) (by simp; omega))
theorem each_ev_22 (a b : List Int) (hn : a.length ≤ 17592186044415) : Ev (fun k => load_Most.f k a b) (eachS mostS a b) := by
  unfold load_Most.f
  refine Ev.bind (a := eachS mostS a b) ?_ (Ev.now _)
  unfold load_each_22.f eachS
  by_cases h : a.length = b.length
  · refine evPos (by omega) ?_
    rw [if_pos h]
    simpa using each_l0_22 a b hn h a.length 0 [] (by omega) (by simp)
  · refine evNeg (by omega) (evNow ?_)
    rw [if_neg h]

theorem each_l0_23 (a b : List Int) (hn : a.length ≤ 17592186044415) (he : a.length = b.length) : ∀ (d i : Nat) (acc : List Int), i + d = a.length → acc.length ≤ i →
    Ev (fun k => load_each_23.l0 k a b acc (a.length : Int) (i : Int)) (eachL addS acc (a.drop i) (b.drop i)) := by
  intro d
  induction d with
  | zero =>
    intro i acc hi ha
    refine Ev.step (fun _ => rfl) ?_
    simp only [load_each_23.l0]
    refine evNeg (by omega) (evNow ?_)
    rw [List.drop_of_length_le (by omega)]
    rfl
  | succ d ih =>
    intro i acc hi ha
    have hlt : i < a.length := by omega
    have hlt' : i < b.length := by omega
    refine Ev.step (fun _ => rfl) ?_
    simp only [load_each_23.l0]
    rw [List.drop_eq_getElem_cons hlt, List.drop_eq_getElem_cons hlt', eachL]
    refine evPos (by omega) (evPos (by omega) (evPos (by omega) (evPos (by omega) ?_)))
    simp only [rdI a i hlt, rdI b i hlt', wrap_succ hlt (by omega : a.length ≤ 4611686018427387904), num_Add_eq]
    refine evSome (evIte (fun _ => ?_) (fun _ => Ev.now _))
    exact evPos (by omega) (ih (i + 1) _ (by omega) (by simp; omega))
theorem each_ev_23 (a b : List Int) (hn : a.length ≤ 17592186044415) : Ev (fun k => load_Add.f k a b) (eachS addS a b) := by
  unfold load_Add.f
  refine Ev.bind (a := eachS addS a b) ?_ (Ev.now _)
  unfold load_each_23.f eachS
  by_cases h : a.length = b.length
  · refine evPos (by omega) ?_
    rw [if_pos h]
    simpa using each_l0_23 a b hn h a.length 0 [] (by omega) (by simp)
  · refine evNeg (by omega) (evNow ?_)
    rw [if_neg h]

theorem each_l0_25 (a b : List Int) (hn : a.length ≤ 17592186044415) (he : a.length = b.length) : ∀ (d i : Nat) (acc : List Int), i + d = a.length → acc.length ≤ i →
    Ev (fun k => load_each_25.l0 k a b acc (a.length : Int) (i : Int)) (eachL subS acc (a.drop i) (b.drop i)) := by
  intro d
  induction d with
  | zero =>
    intro i acc hi ha
    refine Ev.step (fun _ => rfl) ?_
    simp only [load_each_25.l0]
    refine evNeg (by omega) (evNow ?_)
    rw [List.drop_of_length_le (by omega)]
    rfl
  | succ d ih =>
    intro i acc hi ha
    have hlt : i < a.length := by omega
    have hlt' : i < b.length := by omega
    refine Ev.step (fun _ => rfl) ?_
    simp only [load_each_25.l0]
    rw [List.drop_eq_getElem_cons hlt, List.drop_eq_getElem_cons hlt', eachL]
    refine evPos (by omega) (evPos (by omega) (evPos (by omega) (evPos (by omega) ?_)))
    simp only [rdI a i hlt, rdI b i hlt', wrap_succ hlt (by omega : a.length ≤ 4611686018427387904), load_Sub_1_eq]
    refine evSome (evIte (fun _ => ?_) (fun _ => Ev.now _))
    exact evPos (by omega) (ih (i + 1) _ (by omega) (by simp; omega))
theorem each_ev_25 (a b : List Int) (hn : a.length ≤ 17592186044415) : Ev (fun k => load_Sub.f k a b) (eachS subS a b) := by
  unfold load_Sub.f
  refine Ev.bind (a := eachS subS a b) ?_ (Ev.now _)
  unfold load_each_25.f eachS
  by_cases h : a.length = b.length
  · refine evPos (by omega) ?_
    rw [if_pos h]
    simpa using each_l0_25 a b hn h a.length 0 [] (by omega) (by simp)
  · refine evNeg (by omega) (evNow ?_)
    rw [if_neg h]

theorem slices_Equal_int_int_l0 (a b : List Int) (hn : a.length ≤ 4611686018427387904) (he : a.length = b.length) : ∀ (d i : Nat), i + d = a.length →
    Ev (fun k => slices_Equal_int_int.l0 k a b (a.length : Int) (i : Int)) (decide (a.drop i = b.drop i)) := by
  intro d
  induction d with
  | zero =>
    intro i hi
    refine Ev.step (fun _ => rfl) ?_
    simp only [slices_Equal_int_int.l0]
    refine evNeg (by omega) (evNow ?_)
    rw [List.drop_of_length_le (by omega), List.drop_of_length_le (by omega)]
    simp
  | succ d ih =>
    intro i hi
    have hlt : i < a.length := by omega
    have hlt' : i < b.length := by omega
    refine Ev.step (fun _ => rfl) ?_
    simp only [slices_Equal_int_int.l0]
    rw [List.drop_eq_getElem_cons hlt, List.drop_eq_getElem_cons hlt']
    refine evPos (by omega) (evPos (by omega) ?_)
    refine evPos (by omega) (evPos (by omega) ?_)
    simp only [rdI a i hlt, rdI b i hlt', wrap_succ hlt hn]
    by_cases h : a[i] = b[i]
    · refine evPos h (evEq (ih (i + 1) (by omega)) ?_)
      simp only [h, List.cons.injEq, true_and]
    · refine evNeg h (evNow ?_)
      simp only [h, List.cons.injEq, false_and, decide_false]
theorem slices_Equal_int_int_ev (a b : List Int) (hn : a.length ≤ 4611686018427387904) : Ev (fun k => slices_Equal_int_int.f k a b) (decide (a = b)) := by
  unfold slices_Equal_int_int.f
  by_cases h : a.length = b.length
  · refine evPos (by omega) ?_
    simpa using slices_Equal_int_int_l0 a b hn h a.length 0 (by omega)
  · refine evNeg (by omega) (evNow ?_)
    simp
    intro e
    exact h (congrArg List.length e)

theorem haulierref05_SameInts_l0 (a b : List Int) (hn : a.length ≤ 4611686018427387904) (he : a.length = b.length) : ∀ (d i : Nat), i + d = a.length →
    Ev (fun k => haulierref05_SameInts.l0 k a b (i : Int)) (decide (a.drop i = b.drop i)) := by
  intro d
  induction d with
  | zero =>
    intro i hi
    refine Ev.step (fun _ => rfl) ?_
    simp only [haulierref05_SameInts.l0]
    refine evNeg (by omega) (evNow ?_)
    rw [List.drop_of_length_le (by omega), List.drop_of_length_le (by omega)]
    simp
  | succ d ih =>
    intro i hi
    have hlt : i < a.length := by omega
    have hlt' : i < b.length := by omega
    refine Ev.step (fun _ => rfl) ?_
    simp only [haulierref05_SameInts.l0]
    rw [List.drop_eq_getElem_cons hlt, List.drop_eq_getElem_cons hlt']
    refine evPos (by omega) (evPos (by omega) ?_)
    refine evPos (by omega) ?_
    simp only [rdI a i hlt, rdI b i hlt', wrap_succ hlt hn]
    by_cases h : a[i] = b[i]
    · refine evPos h (evEq (ih (i + 1) (by omega)) ?_)
      simp only [h, List.cons.injEq, true_and]
    · refine evNeg h (evNow ?_)
      simp only [h, List.cons.injEq, false_and, decide_false]
theorem haulierref05_SameInts_ev (a b : List Int) (hn : a.length ≤ 4611686018427387904) : Ev (fun k => haulierref05_SameInts.f k a b) (decide (a = b)) := by
  unfold haulierref05_SameInts.f
  by_cases h : a.length = b.length
  · refine evPos (by omega) ?_
    simpa using haulierref05_SameInts_l0 a b hn h a.length 0 (by omega)
  · refine evNeg (by omega) (evNow ?_)
    simp
    intro e
    exact h (congrArg List.length e)

theorem ref_Fits_eq (x : Int) : haulierref01_Fits.f x = some (decide (fits x)) := num_Fits_eq x
theorem ref_Add1_eq (x y : Int) : haulierref01_Add.f x y = some (addS x y) := by
  unfold haulierref01_Add.f addS
  simp only [ref_Fits_eq, Option.bind_some, decide_eq_true_eq]
  by_cases h1 : fits x
  · by_cases h2 : fits y
    · have : wrap64 (x + y) = x + y := by
        unfold fits at h1 h2
        exact wrap_ok (by omega) (by omega)
      rw [this]
      by_cases h3 : fits (x + y) <;> simp [h1, h2, h3]
    · simp [h1, h2]
  · simp [h1]
def refS (m : Bool) (x y : Int) : Int × Int := if m = true then subS x y else addS x y
theorem refAdd_l0 (m : Bool) (a b : List Int) (hn : a.length ≤ 17592186044415) (he : a.length = b.length) : ∀ (d i : Nat) (acc : List Int), i + d = a.length → acc.length ≤ i →
    Ev (fun k => haulierref09_Add.l0 k a b m acc (i : Int)) (eachL (refS m) acc (a.drop i) (b.drop i)) := by
  intro d
  induction d with
  | zero =>
    intro i acc hi ha
    refine Ev.step (fun _ => rfl) ?_
    simp only [haulierref09_Add.l0]
    refine evNeg (by omega) (evNow ?_)
    rw [List.drop_of_length_le (by omega)]
    rfl
  | succ d ih =>
    intro i acc hi ha
    have hlt : i < a.length := by omega
    have hlt' : i < b.length := by omega
    refine Ev.step (fun _ => rfl) ?_
    simp only [haulierref09_Add.l0]
    rw [List.drop_eq_getElem_cons hlt, List.drop_eq_getElem_cons hlt', eachL]
    refine evPos (by omega) (evPos (by omega) (evPos (by omega) ?_))
    simp only [rdI a i hlt, rdI b i hlt', wrap_succ hlt (by omega : a.length ≤ 4611686018427387904), ref_Fits_eq, ref_Add1_eq]
    refine evSome ?_
    by_cases hf : fits b[i]
    · refine evPos (by simp [hf]) ?_
      have next : ∀ p : Int × Int, Ev (fun k => if p.2 = 0 then (if acc.length < 17592186044416 then haulierref09_Add.l0 k a b m (acc ++ [p.1]) (((i + 1 : Nat)) : Int) else none) else some (([] : List Int), p.2)) (if p.2 = 0 then eachL (refS m) (acc ++ [p.1]) (a.drop (i + 1)) (b.drop (i + 1)) else ([], p.2)) := fun p =>
        evIte (fun _ => evPos (by omega) (ih (i + 1) _ (by omega) (by simp; omega))) (fun _ => Ev.now _)
      cases m with
      | true =>
        have hw : wrap64 (-b[i]) = -b[i] := by
          unfold fits at hf
          exact wrap_ok (by omega) (by omega)
        have hs : refS true a[i] b[i] = addS a[i] (-b[i]) := by
          unfold refS subS
          rw [if_pos rfl, if_pos hf]
        refine evPos rfl ?_
        rw [hw, hs]
        exact evSome (next _)
      | false =>
        have hs : refS false a[i] b[i] = addS a[i] b[i] := by
          unfold refS
          rw [if_neg (by decide)]
        refine evNeg (by decide) ?_
        rw [hs]
        exact evSome (next _)
    · have hs : refS m a[i] b[i] = (0, 10) := by
        unfold refS subS addS
        cases m <;> simp [hf]
      refine evNeg (by simp [hf]) (evNow ?_)
      rw [hs]
      rfl
theorem refAdd_ev (m : Bool) (a b : List Int) (hn : a.length ≤ 17592186044415) : Ev (fun k => haulierref09_Add.f k a b m) (eachS (refS m) a b) := by
  unfold haulierref09_Add.f eachS
  by_cases h : a.length = b.length
  · refine evPos (by omega) ?_
    rw [if_pos h]
    simpa using refAdd_l0 m a b hn h a.length 0 [] (by omega) (by simp)
  · refine evNeg (by omega) (evNow ?_)
    rw [if_neg h]
theorem refMost_l0 (a b : List Int) (hn : a.length ≤ 17592186044415) (he : a.length = b.length) : ∀ (d i : Nat) (acc : List Int), i + d = a.length → acc.length ≤ i →
    Ev (fun k => haulierref09_Most.l0 k a b acc (i : Int)) (eachL mostS acc (a.drop i) (b.drop i)) := by
  intro d
  induction d with
  | zero =>
    intro i acc hi ha
    refine Ev.step (fun _ => rfl) ?_
    simp only [haulierref09_Most.l0]
    refine evNeg (by omega) (evNow ?_)
    rw [List.drop_of_length_le (by omega)]
    rfl
  | succ d ih =>
    intro i acc hi ha
    have hlt : i < a.length := by omega
    have hlt' : i < b.length := by omega
    refine Ev.step (fun _ => rfl) ?_
    simp only [haulierref09_Most.l0]
    rw [List.drop_eq_getElem_cons hlt, List.drop_eq_getElem_cons hlt', eachL, if_pos (show (mostS a[i] b[i]).2 = 0 from rfl)]
    refine evPos (by omega) (evPos (by omega) (evPos (by omega) ?_))
    simp only [rdI a i hlt, rdI b i hlt', wrap_succ hlt (by omega : a.length ≤ 4611686018427387904)]
    by_cases h : a[i] > b[i]
    · refine evPos h (evPos (by omega) ?_)
      have : (mostS a[i] b[i]).1 = a[i] := by
        unfold mostS mx
        exact if_neg (by omega)
      rw [this]
      exact ih (i + 1) _ (by omega) (by simp; omega)
    · refine evNeg h (evPos (by omega) ?_)
      have : (mostS a[i] b[i]).1 = b[i] := by
        unfold mostS mx
        show (if a[i] < b[i] then b[i] else a[i]) = b[i]
        split <;> omega
      rw [this]
      exact ih (i + 1) _ (by omega) (by simp; omega)
theorem refMost_ev (a b : List Int) (hn : a.length ≤ 17592186044415) : Ev (fun k => haulierref09_Most.f k a b) (eachS mostS a b) := by
  unfold haulierref09_Most.f eachS
  by_cases h : a.length = b.length
  · refine evPos (by omega) ?_
    rw [if_pos h]
    simpa using refMost_l0 a b hn h a.length 0 [] (by omega) (by simp)
  · refine evNeg (by omega) (evNow ?_)
    rw [if_neg h]
theorem refCheck_l0 (a : List Int) (hn : a.length ≤ 4611686018427387904) : ∀ (d i : Nat), i + d = a.length →
    Ev (fun k => haulierref09_Check.l0 k a (i : Int)) (checkL (a.drop i)) := by
  intro d
  induction d with
  | zero =>
    intro i hi
    refine Ev.step (fun _ => rfl) ?_
    simp only [haulierref09_Check.l0]
    refine evNeg (by omega) (evNow ?_)
    rw [List.drop_of_length_le (by omega)]
    rfl
  | succ d ih =>
    intro i hi
    have hlt : i < a.length := by omega
    refine Ev.step (fun _ => rfl) ?_
    simp only [haulierref09_Check.l0]
    rw [List.drop_eq_getElem_cons hlt, checkL]
    refine evPos (by omega) (evPos (by omega) ?_)
    simp only [rdI a i hlt, wrap_succ hlt hn]
    exact evIte (fun _ => Ev.now _) (fun _ => evIte (fun _ => Ev.now _) (fun _ => ih (i + 1) (by omega)))
theorem refCheck_ev (a : List Int) (n : Int) (hn : a.length ≤ 4611686018427387904) : Ev (fun k => haulierref09_Check.f k a n) (checkS a n) := by
  unfold haulierref09_Check.f checkS
  refine evIte (fun _ => ?_) (fun _ => Ev.now _)
  simpa using refCheck_l0 a hn a.length 0 (by omega)
theorem refUnder_l0 (a b : List Int) (hn : a.length ≤ 4611686018427387904) (he : a.length = b.length) : ∀ (d i : Nat), i + d = a.length →
    Ev (fun k => haulierref09_Under.l0 k a b (i : Int)) (underL (a.drop i) (b.drop i)) := by
  intro d
  induction d with
  | zero =>
    intro i hi
    refine Ev.step (fun _ => rfl) ?_
    simp only [haulierref09_Under.l0]
    refine evNeg (by omega) (evNow ?_)
    rw [List.drop_of_length_le (by omega)]
    rfl
  | succ d ih =>
    intro i hi
    have hlt : i < a.length := by omega
    have hlt' : i < b.length := by omega
    refine Ev.step (fun _ => rfl) ?_
    simp only [haulierref09_Under.l0]
    rw [List.drop_eq_getElem_cons hlt, List.drop_eq_getElem_cons hlt', underL]
    refine evPos (by omega) (evPos (by omega) (evPos (by omega) ?_))
    simp only [rdI a i hlt, rdI b i hlt', wrap_succ hlt hn]
    exact evIte (fun _ => Ev.now _) (fun _ => ih (i + 1) (by omega))
theorem refUnder_ev (a b : List Int) (hn : a.length ≤ 4611686018427387904) : Ev (fun k => haulierref09_Under.f k a b) (underS a b) := by
  unfold haulierref09_Under.f underS
  by_cases h : a.length = b.length
  · refine evPos (by omega) ?_
    rw [if_pos h]
    simpa using refUnder_l0 a b hn h a.length 0 (by omega)
  · refine evNeg (by omega) (evNow ?_)
    rw [if_neg h]

theorem awake_ev : Ev (fun k => haulierlaw09_Awake.f k) true := Ev.of haulierlaw09_Awake.mono (k := 10) (by decide +kernel)
theorem refS_false : refS false = addS := rfl
theorem refS_true : refS true = subS := rfl
theorem len_eachL (g : Int → Int → Int × Int) : ∀ (a b acc : List Int), (eachL g acc a b).1.length ≤ acc.length + a.length
  | [], _, _ => by simp [eachL]
  | _ :: _, [], _ => by simp [eachL]
  | x :: a, y :: b, acc => by
    unfold eachL
    split
    · have := len_eachL g a b (acc ++ [(g x y).1])
      simp at this ⊢
      omega
    · simp
theorem len_eachS (g : Int → Int → Int × Int) (a b : List Int) : (eachS g a b).1.length ≤ a.length := by
  unfold eachS
  split
  · simpa using len_eachL g a b []
  · simp
theorem zero_out (n : Int) (h : n < 0 ∨ n > 3) : load_Zero.f n = some [] := by
  unfold load_Zero.f
  by_cases h0 : n < 0
  · rw [if_pos h0]
  · rw [if_neg h0, if_pos (by omega)]
theorem same_refl (l : List Int) (hn : l.length ≤ 4611686018427387904) : Ev (fun k => haulierref05_SameInts.f k l l) true := evEq (haulierref05_SameInts_ev l l hn) (by simp)
theorem LoadReckons : haulierlaw09_LoadReckons.Pure := by
  intro a b n _ ha _ _ hb _ _
  refine Ev.rounds (g := fun k => haulierlaw09_LoadReckons.f k a b n) ?_
  unfold haulierlaw09_LoadReckons.f
  have early : Ev (fun k => haulierlaw09_LoadReckons.j0 k a b n true) true := by
    refine Ev.step (fun _ => rfl) ?_
    simp only [haulierlaw09_LoadReckons.j0]
    exact evPos (by simp) (Ev.now _)
  refine Ev.bind awake_ev (evPos rfl ?_)
  by_cases h1 : (a.length : Int) > 1000
  · exact evPos h1 early
  refine evNeg h1 ?_
  by_cases h2 : (b.length : Int) > 1000
  · rw [decide_eq_true h2]
    exact early
  rw [decide_eq_false h2]
  have third : Ev (fun k => haulierlaw09_LoadReckons.j2 k a b n a b (eachS subS a b).1 (eachS subS a b).2 (eachS subS a b).1 (eachS subS a b).2 (eachS mostS a b).1 (eachS mostS a b).2 (eachS mostS a b).1 (eachS mostS a b).2 false) true := by
    have l1 := len_eachS subS a b
    have l2 := len_eachS mostS a b
    refine Ev.step (fun _ => rfl) ?_
    simp only [haulierlaw09_LoadReckons.j2]
    refine evNeg (by simp) (Ev.bind (same_refl _ (by omega)) (evPos rfl (evPos (by simp) (Ev.bind (same_refl _ (by omega)) (evPos rfl (evPos (by simp) ?_))))))
    refine Ev.bind (check_ev a n (by omega)) (Ev.bind (refCheck_ev a n (by omega)) (evPos rfl (Ev.bind (under_ev a b (by omega)) (Ev.bind (refUnder_ev a b (by omega)) (evPos (by simp) ?_)))))
    refine Ev.bind (a := decide (a = b)) ?_ (Ev.bind (haulierref05_SameInts_ev a b (by omega)) (evPos (by simp) (Ev.bind (same_refl a (by omega)) (evPos rfl (Ev.bind (same_refl b (by omega)) (Ev.now _))))))
    unfold load_Same.f
    exact Ev.bind (slices_Equal_int_int_ev a b (by omega)) (Ev.now _)
  have second : Ev (fun k => haulierlaw09_LoadReckons.j1 k a b n a b false) true := by
    refine Ev.step (fun _ => rfl) ?_
    simp only [haulierlaw09_LoadReckons.j1]
    refine evNeg (by simp) (Ev.bind (each_ev_25 a b (by omega)) (Ev.bind (refAdd_ev true a b (by omega)) (Ev.bind (each_ev_22 a b (by omega)) (Ev.bind (refMost_ev a b (by omega)) ?_))))
    rw [refS_true]
    by_cases hn0 : n ≥ 0
    · by_cases hn3 : n ≤ 3
      · rw [zero_eq n hn0 hn3]
        exact evSome (evPos hn0 (evPos hn3 (evPos hn0 (evPos (by omega) (Ev.bind (same_refl _ (by simp; omega)) (evPos rfl (evNeg (by omega) (evNeg (by omega) third))))))))
      · rw [zero_out n (by omega)]
        exact evSome (evPos hn0 (evNeg hn3 (evNeg (by omega) (evPos (by omega) third))))
    · rw [zero_out n (by omega)]
      exact evSome (evNeg hn0 (evPos (by omega) third))
  refine Ev.step (fun _ => rfl) ?_
  simp only [haulierlaw09_LoadReckons.j0]
  refine evNeg (by simp) (evSome (evPos (by simp; omega) (evSome (evSome (evPos (by simp; omega) (evSome ?_))))))
  simp only [List.nil_append]
  have sumE : Ev (fun k => haulierlaw09_sumError.f k a b) (eachS addS a b).2 := by
    unfold haulierlaw09_sumError.f
    exact Ev.bind (refAdd_ev false a b (by omega)) (Ev.now _)
  refine Ev.bind (each_ev_23 a b (by omega)) (Ev.bind (refAdd_ev false a b (by omega)) (Ev.bind sumE ?_))
  rw [refS_false]
  have l0 := len_eachS addS a b
  by_cases he : (eachS addS a b).2 = 0
  · exact evPos he (Ev.bind (same_refl _ (by omega)) (evPos rfl (evPos rfl second)))
  · refine evNeg he (evPos ?_ ?_)
    · have : (eachS addS a b).1 = [] := by
        unfold eachS at he ⊢
        by_cases h : a.length = b.length
        · rw [if_pos h] at he ⊢
          exact each_bad addS a b [] he
        · rw [if_neg h]
      rw [this]
      rfl
    · simpa using second

end Go.Proofs.Ytfmdgekjmeohiaa.MLoadReckons
