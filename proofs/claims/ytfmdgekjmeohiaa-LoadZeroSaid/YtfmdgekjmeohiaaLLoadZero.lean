/- What the printed functions about amounts answer, in plain words, and the law that stands at the end.
Conditions: those of the law's own row. -/
import Derived.Test.YtfmdgekjmeohiaaMLoadZerox
import Derived.Test.YtfmdgekjmeohiaaEvKit
namespace Go.Proofs.Ytfmdgekjmeohiaa.MLoadZero
open Go.RowKit Go.Proofs.YtfmdgekjmeohiaaW.PrintWords Go.Proofs.YtfmdgekjmeohiaaW.PrintLast Go.Proofs.YtfmdgekjmeohiaaW.PrintMore Go.Proofs.Ytfmdgekjmeohiaa.EvKit
set_option linter.unusedVariables false
set_option linter.unusedSimpArgs false

theorem rdI (xs : List Int) (i : Nat) (h : i < xs.length) : rd xs (i : Int) = xs[i] := by
  simp [rd, List.getElem?_eq_getElem h]
/-- Dimension by dimension, up to the first error. -/
def eachL (g : Int → Int → Int × Int) : List Int → List Int → List Int → List Int × Int
  | acc, x :: a, y :: b => if (g x y).2 = 0 then eachL g (acc ++ [(g x y).1]) a b else ([], (g x y).2)
  | acc, _, _ => (acc, 0)
def eachS (g : Int → Int → Int × Int) (a b : List Int) : List Int × Int := if a.length = b.length then eachL g [] a b else ([], 43)
def underL : List Int → List Int → Bool
  | x :: a, y :: b => if x > y then false else underL a b
  | _, _ => true
def underS (a b : List Int) : Bool := if a.length = b.length then underL a b else false
theorem underL_refl : ∀ a, underL a a = true
  | [] => rfl
  | x :: a => by
    unfold underL
    rw [if_neg (by omega), underL_refl a]
theorem underL_trans : ∀ a b c, a.length = b.length → b.length = c.length → underL a b = true → underL b c = true → underL a c = true
  | [], _, _, _, _, _, _ => by simp [underL]
  | x :: a, [], _, h, _, _, _ => by simp at h
  | x :: a, y :: b, [], _, h, _, _ => by simp at h
  | x :: a, y :: b, z :: c, h, h', h1, h2 => by
    unfold underL at h1 h2 ⊢
    split at h1
    · simp at h1
    split at h2
    · simp at h2
    rw [if_neg (by omega)]
    exact underL_trans a b c (by simpa using h) (by simpa using h') h1 h2

def checkL : List Int → Int
  | [] => 0
  | x :: l => if x < 0 then 2 else if x > 1000000 then 2 else checkL l
def checkS (a : List Int) (n : Int) : Int := if (a.length : Int) = n then checkL a else 43
theorem check_l0 (a : List Int) (hn : a.length ≤ 4611686018427387904) : ∀ (d i : Nat), i + d = a.length →
    Ev (fun k => load_Check.l0 k a (a.length : Int) (i : Int)) (checkL (a.drop i)) := by
  intro d
  induction d with
  | zero =>
    intro i hi
    refine Ev.step (fun _ => rfl) ?_
    simp only [load_Check.l0]
    refine evNeg (by omega) (evNow ?_)
    rw [List.drop_of_length_le (by omega)]
    rfl
  | succ d ih =>
    intro i hi
    have hlt : i < a.length := by omega
    refine Ev.step (fun _ => rfl) ?_
    simp only [load_Check.l0]
    rw [List.drop_eq_getElem_cons hlt, checkL]
    refine evPos (by omega) (evPos (by omega) (evPos (by omega) ?_))
    simp only [rdI a i hlt, wrap_succ hlt hn]
    exact evIte (fun _ => Ev.now _) (fun _ => evIte (fun _ => Ev.now _) (fun _ => ih (i + 1) (by omega)))
theorem check_ev (a : List Int) (n : Int) (hn : a.length ≤ 4611686018427387904) : Ev (fun k => load_Check.f k a n) (checkS a n) := by
  unfold load_Check.f checkS
  refine evIte (fun _ => ?_) (fun _ => Ev.now _)
  simpa using check_l0 a hn a.length 0 (by omega)
theorem checkL_ok : ∀ a : List Int, checkL a = 0 → ∀ x ∈ a, 0 ≤ x ∧ x ≤ 1000000
  | [], _, x, hx => by simp at hx
  | y :: l, h, x, hx => by
    unfold checkL at h
    split at h
    · simp at h
    split at h
    · simp at h
    rcases List.mem_cons.1 hx with rfl | hx
    · omega
    · exact checkL_ok l h x hx
theorem checkL_zero : ∀ n : Nat, checkL (List.replicate n 0) = 0
  | 0 => rfl
  | n + 1 => by
    rw [List.replicate_succ]
    unfold checkL
    rw [if_neg (by omega), if_neg (by omega), checkL_zero n]

theorem zero_eq (n : Int) (h0 : 0 ≤ n) (h3 : n ≤ 3) : load_Zero.f n = some (List.replicate n.toNat 0) := by
  unfold load_Zero.f
  rw [if_neg (by omega), if_neg (by omega), if_pos h0, if_pos (by omega)]

def mostS (x y : Int) : Int × Int := (mx x y, 0)
theorem load_Most_1_eq (x y : Int) : load_Most_1.f x y = some (mostS x y) := rfl
theorem most_ok : ∀ (a b acc : List Int), a.length = b.length → (eachL mostS acc a b) = (acc ++ List.zipWith mx a b, 0)
  | [], [], acc, _ => by simp [eachL]
  | [], _ :: _, _, h => by simp at h
  | _ :: _, [], _, h => by simp at h
  | x :: a, y :: b, acc, h => by
    unfold eachL
    rw [if_pos (show (mostS x y).2 = 0 from rfl), most_ok a b _ (by simpa using h)]
    simp [mostS]
theorem under_most : ∀ (a b c : List Int), a.length = b.length → b.length = c.length → underL a b = true → underL a (List.zipWith mx b c) = true
  | [], _, _, _, _, _ => by simp [underL]
  | x :: a, [], _, h, _, _ => by simp at h
  | x :: a, y :: b, [], _, h, _ => by simp at h
  | x :: a, y :: b, z :: c, h, h', h1 => by
    rw [List.zipWith_cons_cons]
    unfold underL at h1 ⊢
    split at h1
    · simp at h1
    rw [if_neg (by unfold mx; split <;> omega)]
    exact under_most a b c (by simpa using h) (by simpa using h') h1

def fits (x : Int) : Prop := -4611686018427387903 ≤ x ∧ x ≤ 4611686018427387903
instance (x : Int) : Decidable (fits x) := by unfold fits; exact inferInstance
theorem num_Fits_eq (x : Int) : num_Fits.f x = some (decide (fits x)) := by
  unfold num_Fits.f fits
  by_cases h : x ≥ -4611686018427387903
  · rw [if_pos h]
    simp [show (-4611686018427387903 : Int) ≤ x from h]
  · rw [if_neg h]
    simp [show ¬ (-4611686018427387903 : Int) ≤ x from h]
def addS (x y : Int) : Int × Int := if fits x ∧ fits y ∧ fits (x + y) then (x + y, 0) else (0, 10)
theorem num_Add_eq (x y : Int) : num_Add.f x y = some (addS x y) := by
  unfold num_Add.f addS
  simp only [num_Fits_eq, Option.bind_some, decide_eq_true_eq]
  by_cases h1 : fits x
  · by_cases h2 : fits y
    · have : wrap64 (x + y) = x + y := by
        unfold fits at h1 h2
        exact wrap_ok (by omega) (by omega)
      rw [this]
      by_cases h3 : fits (x + y) <;> simp [h1, h2, h3]
    · simp [h1, h2]
  · simp [h1]
theorem addS_comm (x y : Int) : addS x y = addS y x := by
  unfold addS
  rw [Int.add_comm y x]
  by_cases h : fits x ∧ fits y ∧ fits (x + y)
  · rw [if_pos h, if_pos ⟨h.2.1, h.1, h.2.2⟩]
  · rw [if_neg h, if_neg (fun h' => h ⟨h'.2.1, h'.1, h'.2.2⟩)]
theorem add_comm_l : ∀ (a b acc : List Int), eachL addS acc a b = eachL addS acc b a
  | [], [], _ => rfl
  | [], _ :: _, _ => rfl
  | _ :: _, [], _ => rfl
  | x :: a, y :: b, acc => by
    unfold eachL
    rw [addS_comm y x]
    split
    · exact add_comm_l a b _
    · rfl
theorem each_bad (g : Int → Int → Int × Int) : ∀ (a b acc : List Int), (eachL g acc a b).2 ≠ 0 → (eachL g acc a b).1 = []
  | [], _, _, h => by simp [eachL] at h
  | _ :: _, [], _, h => by simp [eachL] at h
  | x :: a, y :: b, acc, h => by
    unfold eachL at h ⊢
    split
    · rename_i h0
      rw [if_pos h0] at h
      exact each_bad g a b _ h
    · rfl
/-- What an addition that went well holds. -/
theorem add_ok : ∀ (a b acc : List Int), (eachL addS acc a b).2 = 0 → a.length = b.length → (eachL addS acc a b).1 = acc ++ List.zipWith (· + ·) a b ∧ ∀ i (h : i < a.length) (h' : i < b.length), fits a[i] ∧ fits b[i] ∧ fits (a[i] + b[i])
  | [], [], _, _, _ => by simp [eachL]
  | [], _ :: _, _, _, h => by simp at h
  | _ :: _, [], _, _, h => by simp at h
  | x :: a, y :: b, acc, h0, h => by
    unfold eachL at h0 ⊢
    split at h0
    · rename_i hg
      rw [if_pos hg]
      have hf : fits x ∧ fits y ∧ fits (x + y) := by
        by_cases hf : fits x ∧ fits y ∧ fits (x + y)
        · exact hf
        · rw [addS, if_neg hf] at hg
          simp at hg
      obtain ⟨h1, h2⟩ := add_ok a b _ h0 (by simpa using h)
      refine ⟨?_, ?_⟩
      · rw [h1, addS, if_pos hf]
        simp
      · intro i hi hi'
        cases i with
        | zero => exact hf
        | succ i => exact h2 i (by simpa using hi) (by simpa using hi')
    · contradiction

def subS (x y : Int) : Int × Int := if fits y then addS x (-y) else (0, 10)
theorem load_Sub_1_eq (x y : Int) : load_Sub_1.f x y = some (subS x y) := by
  unfold load_Sub_1.f subS
  simp only [num_Fits_eq, Option.bind_some, decide_eq_true_eq]
  by_cases h : fits y
  · have : wrap64 (-y) = -y := by
      unfold fits at h
      exact wrap_ok (by omega) (by omega)
    simp [h, this, num_Add_eq]
  · simp [h]
theorem sub_back : ∀ (a b acc : List Int), a.length = b.length → (∀ i (h : i < a.length) (h' : i < b.length), fits a[i] ∧ fits b[i] ∧ fits (a[i] + b[i])) → eachL subS acc (List.zipWith (· + ·) a b) b = (acc ++ a, 0)
  | [], [], _, _, _ => by simp [eachL]
  | [], _ :: _, _, h, _ => by simp at h
  | _ :: _, [], _, h, _ => by simp at h
  | x :: a, y :: b, acc, h, hf => by
    obtain ⟨h1, h2, h3⟩ := hf 0 (by simp) (by simp)
    simp only [List.getElem_cons_zero] at h1 h2 h3
    rw [List.zipWith_cons_cons]
    unfold eachL
    have e : subS (x + y) y = (x, 0) := by
      unfold subS addS
      rw [if_pos h2, if_pos]
      · rw [show x + y + -y = x by omega]
      · rw [show x + y + -y = x by omega]
        unfold fits at h2 ⊢
        exact ⟨h3, by omega, h1⟩
    rw [e, if_pos rfl, sub_back a b _ (by simpa using h) (fun i hi hi' => hf (i + 1) (by simpa using hi) (by simpa using hi'))]
    simp

theorem each_l0_22 (a b : List Int) (hn : a.length ≤ 17592186044415) (he : a.length = b.length) : ∀ (d i : Nat) (acc : List Int), i + d = a.length → acc.length ≤ i →
    Ev (fun k => load_each_22.l0 k a b acc (a.length : Int) (i : Int)) (eachL mostS acc (a.drop i) (b.drop i)) := by
  intro d
  induction d with
  | zero =>
    intro i acc hi ha
    refine Ev.step (fun _ => rfl) ?_
    simp only [load_each_22.l0]
    refine evNeg (by omega) (evNow ?_)
    rw [List.drop_of_length_le (by omega)]
    rfl
  | succ d ih =>
    intro i acc hi ha
    have hlt : i < a.length := by omega
    have hlt' : i < b.length := by omega
    refine Ev.step (fun _ => rfl) ?_
    simp only [load_each_22.l0]
    rw [List.drop_eq_getElem_cons hlt, List.drop_eq_getElem_cons hlt', eachL]
    refine evPos (by omega) (evPos (by omega) (evPos (by omega) (evPos (by omega) ?_)))
    simp only [rdI a i hlt, rdI b i hlt', wrap_succ hlt (by omega : a.length ≤ 4611686018427387904), load_Most_1_eq]
    refine evSome (evIte (fun _ => ?_) (fun _ => Ev.now _))
    exact evPos (by omega) (ih (i + 1) _ (by omega) (by simp; omega))
theorem each_ev_22 (a b : List Int) (hn : a.length ≤ 17592186044415) : Ev (fun k => load_Most.f k a b) (eachS mostS a b) := by
  unfold load_Most.f
  refine Ev.bind (a := eachS mostS a b) ?_ (Ev.now _)
  unfold load_each_22.f eachS
  by_cases h : a.length = b.length
  · refine evPos (by omega) ?_
    rw [if_pos h]
    simpa using each_l0_22 a b hn h a.length 0 [] (by omega) (by simp)
  · refine evNeg (by omega) (evNow ?_)
    rw [if_neg h]

theorem each_l0_23 (a b : List Int) (hn : a.length ≤ 17592186044415) (he : a.length = b.length) : ∀ (d i : Nat) (acc : List Int), i + d = a.length → acc.length ≤ i →
    Ev (fun k => load_each_23.l0 k a b acc (a.length : Int) (i : Int)) (eachL addS acc (a.drop i) (b.drop i)) := by
  intro d
  induction d with
  | zero =>
    intro i acc hi ha
    refine Ev.step (fun _ => rfl) ?_
    simp only [load_each_23.l0]
    refine evNeg (by omega) (evNow ?_)
    rw [List.drop_of_length_le (by omega)]
    rfl
  | succ d ih =>
    intro i acc hi ha
    have hlt : i < a.length := by omega
    have hlt' : i < b.length := by omega
    refine Ev.step (fun _ => rfl) ?_
    simp only [load_each_23.l0]
    rw [List.drop_eq_getElem_cons hlt, List.drop_eq_getElem_cons hlt', eachL]
    refine evPos (by omega) (evPos (by omega) (evPos (by omega) (evPos (by omega) ?_)))
    simp only [rdI a i hlt, rdI b i hlt', wrap_succ hlt (by omega : a.length ≤ 4611686018427387904), num_Add_eq]
    refine evSome (evIte (fun _ => ?_) (fun _ => Ev.now _))
    exact evPos (by omega) (ih (i + 1) _ (by omega) (by simp; omega))
theorem each_ev_23 (a b : List Int) (hn : a.length ≤ 17592186044415) : Ev (fun k => load_Add.f k a b) (eachS addS a b) := by
  unfold load_Add.f
  refine Ev.bind (a := eachS addS a b) ?_ (Ev.now _)
  unfold load_each_23.f eachS
  by_cases h : a.length = b.length
  · refine evPos (by omega) ?_
    rw [if_pos h]
    simpa using each_l0_23 a b hn h a.length 0 [] (by omega) (by simp)
  · refine evNeg (by omega) (evNow ?_)
    rw [if_neg h]

theorem each_l0_25 (a b : List Int) (hn : a.length ≤ 17592186044415) (he : a.length = b.length) : ∀ (d i : Nat) (acc : List Int), i + d = a.length → acc.length ≤ i →
    Ev (fun k => load_each_25.l0 k a b acc (a.length : Int) (i : Int)) (eachL subS acc (a.drop i) (b.drop i)) := by
  intro d
  induction d with
  | zero =>
    intro i acc hi ha
    refine Ev.step (fun _ => rfl) ?_
    simp only [load_each_25.l0]
    refine evNeg (by omega) (evNow ?_)
    rw [List.drop_of_length_le (by omega)]
    rfl
  | succ d ih =>
    intro i acc hi ha
    have hlt : i < a.length := by omega
    have hlt' : i < b.length := by omega
    refine Ev.step (fun _ => rfl) ?_
    simp only [load_each_25.l0]
    rw [List.drop_eq_getElem_cons hlt, List.drop_eq_getElem_cons hlt', eachL]
    refine evPos (by omega) (evPos (by omega) (evPos (by omega) (evPos (by omega) ?_)))
    simp only [rdI a i hlt, rdI b i hlt', wrap_succ hlt (by omega : a.length ≤ 4611686018427387904), load_Sub_1_eq]
    refine evSome (evIte (fun _ => ?_) (fun _ => Ev.now _))
    exact evPos (by omega) (ih (i + 1) _ (by omega) (by simp; omega))
theorem each_ev_25 (a b : List Int) (hn : a.length ≤ 17592186044415) : Ev (fun k => load_Sub.f k a b) (eachS subS a b) := by
  unfold load_Sub.f
  refine Ev.bind (a := eachS subS a b) ?_ (Ev.now _)
  unfold load_each_25.f eachS
  by_cases h : a.length = b.length
  · refine evPos (by omega) ?_
    rw [if_pos h]
    simpa using each_l0_25 a b hn h a.length 0 [] (by omega) (by simp)
  · refine evNeg (by omega) (evNow ?_)
    rw [if_neg h]

theorem slices_Equal_int_int_l0 (a b : List Int) (hn : a.length ≤ 4611686018427387904) (he : a.length = b.length) : ∀ (d i : Nat), i + d = a.length →
    Ev (fun k => slices_Equal_int_int.l0 k a b (a.length : Int) (i : Int)) (decide (a.drop i = b.drop i)) := by
  intro d
  induction d with
  | zero =>
    intro i hi
    refine Ev.step (fun _ => rfl) ?_
    simp only [slices_Equal_int_int.l0]
    refine evNeg (by omega) (evNow ?_)
    rw [List.drop_of_length_le (by omega), List.drop_of_length_le (by omega)]
    simp
  | succ d ih =>
    intro i hi
    have hlt : i < a.length := by omega
    have hlt' : i < b.length := by omega
    refine Ev.step (fun _ => rfl) ?_
    simp only [slices_Equal_int_int.l0]
    rw [List.drop_eq_getElem_cons hlt, List.drop_eq_getElem_cons hlt']
    refine evPos (by omega) (evPos (by omega) ?_)
    refine evPos (by omega) (evPos (by omega) ?_)
    simp only [rdI a i hlt, rdI b i hlt', wrap_succ hlt hn]
    by_cases h : a[i] = b[i]
    · refine evPos h (evEq (ih (i + 1) (by omega)) ?_)
      simp only [h, List.cons.injEq, true_and]
    · refine evNeg h (evNow ?_)
      simp only [h, List.cons.injEq, false_and, decide_false]
theorem slices_Equal_int_int_ev (a b : List Int) (hn : a.length ≤ 4611686018427387904) : Ev (fun k => slices_Equal_int_int.f k a b) (decide (a = b)) := by
  unfold slices_Equal_int_int.f
  by_cases h : a.length = b.length
  · refine evPos (by omega) ?_
    simpa using slices_Equal_int_int_l0 a b hn h a.length 0 (by omega)
  · refine evNeg (by omega) (evNow ?_)
    simp
    intro e
    exact h (congrArg List.length e)

theorem awake_ev : Ev (fun k => haulierlaw09_Awake.f k) true := Ev.of haulierlaw09_Awake.mono (k := 10) (by decide +kernel)
theorem each_zero (g : Int → Int → Int × Int) (hg : ∀ x, 0 ≤ x → x ≤ 1000000 → g x 0 = (x, 0)) : ∀ (a acc : List Int), (∀ x ∈ a, 0 ≤ x ∧ x ≤ 1000000) → eachL g acc a (List.replicate a.length 0) = (acc ++ a, 0)
  | [], acc, _ => by simp [eachL]
  | x :: a, acc, h => by
    have hx := h x (by simp)
    rw [List.length_cons, List.replicate_succ]
    unfold eachL
    rw [hg x hx.1 hx.2, if_pos rfl, each_zero g hg a _ (fun y hy => h y (by simp [hy]))]
    simp
theorem n_range (x : Int) : 0 ≤ wrap64 (Int.tmod (IntKind.u64.wrap x) 4) ∧ wrap64 (Int.tmod (IntKind.u64.wrap x) 4) ≤ 3 := by
  have h : 0 ≤ IntKind.u64.wrap x := by
    simp [IntKind.wrap, IntKind.bits, IntKind.signed]
    omega
  generalize IntKind.u64.wrap x = y at h
  rw [Int.tmod_eq_emod_of_nonneg h]
  unfold wrap64
  omega
/-- The last loop: whatever the three lists hold. -/
theorem l1_ev (a : List Int) (n : Int) (h0 : 0 ≤ n) (h3 : n ≤ 3) (N : Nat) (hN : N ≤ 1000) (hna : a.length ≤ 1000) : ∀ (d i : Nat) (s t u : List Int), i + d = N → s.length = N → t.length = N → u.length = N →
    Ev (fun k => haulierlaw09_LoadZero.l1 k a n a s t u (N : Int) (i : Int)) true := by
  intro d
  induction d with
  | zero =>
    intro i s t u hi hs ht hu
    refine Ev.step (fun _ => rfl) ?_
    simp only [haulierlaw09_LoadZero.l1]
    refine evNeg (by omega) (Ev.bind (a := true) ?_ (evPos rfl ?_))
    · unfold load_Same.f
      exact Ev.bind (slices_Equal_int_int_ev a a (by omega)) (evNow (by simp))
    rw [zero_eq n h0 h3]
    refine evSome (evPos h0 (evPos (by omega) (Ev.bind (a := true) ?_ (Ev.now _))))
    unfold load_Same.f
    exact Ev.bind (slices_Equal_int_int_ev _ _ (by simp; omega)) (evNow (by simp))
  | succ d ih =>
    intro i s t u hi hs ht hu
    refine Ev.step (fun _ => rfl) ?_
    simp only [haulierlaw09_LoadZero.l1]
    refine evPos (by omega) (evPos (by omega) (evPos (by omega) (evPos (by omega) (evPos (by omega) ?_))))
    rw [wrap_succ (by omega : i < N) (by omega : N ≤ 4611686018427387904)]
    exact ih (i + 1) _ _ _ (by omega) (by simp [hs]) (by simp [ht]) (by simp [hu])
theorem l0_ev (a : List Int) (n : Int) (h0 : 0 ≤ n) (h3 : n ≤ 3) (N : Nat) (hN : N ≤ 1000) (hna : a.length ≤ 1000) : ∀ (d i : Nat) (z : List Int), i + d = N → z.length = N →
    Ev (fun k => haulierlaw09_LoadZero.l0 k a n z a a 0 a 0 a 0 (N : Int) (i : Int)) true := by
  intro d
  induction d with
  | zero =>
    intro i z hi hz
    refine Ev.step (fun _ => rfl) ?_
    simp only [haulierlaw09_LoadZero.l0]
    have same : Ev (fun k => load_Same.f k a a) true := by
      unfold load_Same.f
      exact Ev.bind (slices_Equal_int_int_ev a a (by omega)) (evNow (by simp))
    refine evNeg (by omega) (evPos (by simp) (evPos (by simp) (evPos (by simp) (Ev.bind same (evPos rfl (Ev.bind same (evPos rfl (Ev.bind same ?_))))))))
    refine Ev.step (fun _ => rfl) ?_
    simp only [haulierlaw09_LoadZero.j2]
    refine evNeg (by simp) ?_
    simpa using l1_ev a n h0 h3 a.length hna hna a.length 0 a a a (by omega) rfl rfl rfl
  | succ d ih =>
    intro i z hi hz
    refine Ev.step (fun _ => rfl) ?_
    simp only [haulierlaw09_LoadZero.l0]
    refine evPos (by omega) (evPos (by omega) (evPos (by omega) ?_))
    rw [wrap_succ (by omega : i < N) (by omega : N ≤ 4611686018427387904)]
    exact ih (i + 1) _ (by omega) (by simp [hz])
theorem LoadZero : haulierlaw09_LoadZero.Pure := by
  intro a m _ ha _ _
  refine Ev.rounds (g := fun k => haulierlaw09_LoadZero.f k a m) ?_
  unfold haulierlaw09_LoadZero.f
  obtain ⟨h0, h3⟩ := n_range m
  generalize wrap64 (Int.tmod (IntKind.u64.wrap m) 4) = n at h0 h3
  refine Ev.bind awake_ev (evPos rfl ?_)
  rw [zero_eq n h0 h3]
  have hcz : checkS (List.replicate n.toNat 0) n = 0 := by
    unfold checkS
    rw [if_pos (by simp; omega), checkL_zero]
  refine evSome (Ev.bind (check_ev _ n (by simp; omega)) (evPos hcz ?_))
  have e : (((List.replicate n.toNat (0 : Int)).length : Int) != n) = false := by
    simp
    omega
  rw [e]
  refine Ev.step (fun _ => rfl) ?_
  simp only [haulierlaw09_LoadZero.j0]
  refine evNeg (by simp) (evSome (evPos (by simp; omega) ?_))
  simp only [List.nil_append]
  refine Ev.bind (check_ev a n (by omega)) ?_
  by_cases hc : ¬ checkS a n = 0
  · exact evNeg hc (Ev.now _)
  have hc : checkS a n = 0 := Decidable.not_not.1 hc
  refine evPos hc (evSome (evPos (by simp; omega) (evSome ?_)))
  simp only [List.nil_append]
  unfold checkS at hc
  split at hc
  · rename_i hl
    have ok := checkL_ok a hc
    have hz : List.replicate n.toNat (0 : Int) = List.replicate a.length 0 := by
      rw [← hl]
      simp
    have hlen : a.length ≤ 3 := by omega
    rw [hz]
    have each : ∀ g : Int → Int → Int × Int, (∀ x, 0 ≤ x → x ≤ 1000000 → g x 0 = (x, 0)) → eachS g a (List.replicate a.length 0) = (a, 0) := by
      intro g hg
      unfold eachS
      rw [if_pos (by simp), each_zero g hg a [] ok]
      rfl
    have ha0 : eachS addS a (List.replicate a.length 0) = (a, 0) := each _ (fun x h1 h2 => by
      have f0 : fits (0 : Int) := by unfold fits; omega
      have fx : fits x := by unfold fits; omega
      unfold addS
      rw [if_pos ⟨fx, f0, by simpa using fx⟩]
      simp)
    have hs0 : eachS subS a (List.replicate a.length 0) = (a, 0) := each _ (fun x h1 h2 => by
      have f0 : fits (0 : Int) := by unfold fits; omega
      have fx : fits x := by unfold fits; omega
      unfold subS addS
      rw [if_pos f0, if_pos ⟨fx, by simpa using f0, by simpa using fx⟩]
      simp)
    have hm0 : eachS mostS a (List.replicate a.length 0) = (a, 0) := each _ (fun x h1 h2 => by
      unfold mostS mx
      rw [if_neg (by omega)])
    refine Ev.bind (each_ev_23 a _ (by omega)) (Ev.bind (each_ev_25 a _ (by omega)) (Ev.bind (each_ev_22 a _ (by omega)) ?_))
    rw [ha0, hs0, hm0]
    simpa using l0_ev a n h0 h3 a.length (by omega) (by omega) a.length 0 (List.replicate a.length 0) (by omega) (by simp)
  · simp at hc

end Go.Proofs.Ytfmdgekjmeohiaa.MLoadZero
