/- The program's Set, Fit and the checks of Of are the document's, in plain words.
Conditions: a lawful problem. -/
import Derived.Test.YtemjpgmfignhnaaM11
import Derived.Test.YtemjpgmfignhnaaM7
import Derived.Test.YtemjpgmfignhnaaM9
import Derived.Test.YtemjpgmfignhnaaM0
import Derived.Test.YtemjpgmfignhnaaQ13v
namespace Go.Proofs.Ytemjpgmfignhnaa
open Go.RowKit Go.Proofs.YtemjpgmfignhnaaW.PrintWords Go.Proofs.YtemjpgmfignhnaaW.PrintLast Go.Proofs.YtemjpgmfignhnaaW.PrintMore
set_option linter.unusedVariables false
set_option linter.unusedSimpArgs false
/-! ### Set: the program's way and the document's -/
def setR (at_ : List Int) : List TVisit → Int → List TVisit
 | [], i => brkS at_ i at_.length
 | x :: l, i => brkS at_ i at_.length ++ x :: setR at_ l (i + 1)
theorem setTo_R (l : List TVisit) (at_ : List Int) : ∀ k i, i + k = l.length → setTo l at_ i ++ setR at_ (l.drop i) i = setS l at_
 | 0, i, h => by
  obtain rfl : i = l.length := by omega
  rw [List.drop_of_length_le (Nat.le_refl _), setR, setS, setTo, if_neg (by omega), List.append_nil]
 | k + 1, i, h => by
  have hi : i < l.length := by omega
  rw [← setTo_R l at_ k (i + 1) (by omega), List.drop_eq_getElem_cons hi, setR, setTo, if_pos hi, rdVisit_nat l i hi]
  simp
theorem setS_R (l : List TVisit) (at_ : List Int) : setS l at_ = setR at_ l 0 := (setTo_R l at_ l.length 0 (by omega)).symm
theorem setR_0 : ∀ (l : List TVisit) (i : Int), setR [] l i = l
 | [], i => rfl
 | x :: l, i => by
  rw [setR, setR_0 l]
  rfl
theorem setP_0 : ∀ (l : List TVisit) (i k : Int), setP l [] i k = l
 | [], i, k => rfl
 | x :: l, i, k => by
  show [] ++ x :: setP l [] _ _ = _
  rw [setP_0 l]
  rfl
theorem brkS_1 (a i : Int) : brkS [a] i 1 = if a = i then [⟨4, 0⟩] else [] := rfl
theorem brkS_2 (a b i : Int) : brkS [a, b] i 2 = (if a = i then [⟨4, 0⟩] else []) ++ (if b = i then [⟨4, 1⟩] else []) := rfl
theorem setR_1p (a : Int) : ∀ (l : List TVisit) (i : Int), a < i → setR [a] l i = l
 | [], i, h => by rw [setR]; show brkS [a] i 1 = _; rw [brkS_1, if_neg (by omega)]
 | x :: l, i, h => by
  rw [setR, setR_1p a l (i + 1) (by omega)]
  show brkS [a] i 1 ++ _ = _
  rw [brkS_1, if_neg (by omega)]; rfl
theorem setR_1 (a : Int) : ∀ (l : List TVisit) (i : Int), i ≤ a → setR [a] l i = setP l [a] i 0
 | [], i, h => by
  rw [setR, setP, brkTake, brkTake]
  show brkS [a] i 1 = _
  rw [brkS_1]
  by_cases e : a = i
  ·rw [if_pos e, if_pos (by omega)]
  ·rw [if_neg e, if_neg (by omega)]
 | x :: l, i, h => by
  rw [setR, setP, brkTake, brkTake, brkDrop, brkDrop]
  show brkS [a] i 1 ++ _ = _
  rw [brkS_1]
  by_cases e : a = i
  ·rw [if_pos e, if_pos (by omega), if_pos (by omega), setR_1p a l _ (by omega), setP_0]
  ·rw [if_neg e, if_neg (by omega), if_neg (by omega), setR_1 a l _ (by omega)]
   rfl
theorem setR_2p (a b : Int) : ∀ (l : List TVisit) (i : Int), a < i → b < i → setR [a, b] l i = l
 | [], i, h, h2 => by rw [setR]; show brkS [a, b] i 2 = _; rw [brkS_2, if_neg (by omega), if_neg (by omega)]; rfl
 | x :: l, i, h, h2 => by
  rw [setR, setR_2p a b l (i + 1) (by omega) (by omega)]
  show brkS [a, b] i 2 ++ _ = _
  rw [brkS_2, if_neg (by omega), if_neg (by omega)]; rfl
theorem setR_2m (a b : Int) : ∀ (l : List TVisit) (i : Int), a < i → i ≤ b → setR [a, b] l i = setP l [b] i 1
 | [], i, h, h2 => by
  rw [setR, setP, brkTake, brkTake]
  show brkS [a, b] i 2 = _
  rw [brkS_2, if_neg (show ¬ a = i by omega)]
  by_cases e : b = i
  ·rw [if_pos e, if_pos (by omega)]; rfl
  ·rw [if_neg e, if_neg (by omega)]; rfl
 | x :: l, i, h, h2 => by
  rw [setR, setP, brkTake, brkTake, brkDrop, brkDrop]
  show brkS [a, b] i 2 ++ _ = _
  rw [brkS_2, if_neg (show ¬ a = i by omega)]
  by_cases e : b = i
  ·rw [if_pos e, if_pos (by omega), if_pos (by omega), setR_2p a b l _ (by omega) (by omega), setP_0]; rfl
  ·rw [if_neg e, if_neg (by omega), if_neg (by omega), setR_2m a b l _ (by omega) (by omega)]
   rfl
theorem setR_2 (a b : Int) (hab : a ≤ b) : ∀ (l : List TVisit) (i : Int), i ≤ a → setR [a, b] l i = setP l [a, b] i 0
 | [], i, h => by
  rw [setR, setP, brkTake, brkTake, brkTake]
  show brkS [a, b] i 2 = _
  rw [brkS_2]
  by_cases e : a = i
  ·rw [if_pos e, if_pos (show a ≤ i by omega)]
   by_cases e2 : b = i
   ·rw [if_pos e2, if_pos (by omega)]; rfl
   ·rw [if_neg e2, if_neg (by omega)]; rfl
  ·rw [if_neg e, if_neg (show ¬ b = i by omega), if_neg (by omega)]; rfl
 | x :: l, i, h => by
  rw [setR, setP, brkTake, brkTake, brkTake, brkDrop, brkDrop, brkDrop]
  show brkS [a, b] i 2 ++ _ = _
  rw [brkS_2]
  by_cases e : a = i
  ·by_cases e2 : b = i
   ·rw [if_pos e, if_pos e2, if_pos (show a ≤ i by omega), if_pos (show b ≤ i by omega), if_pos (show a ≤ i by omega), if_pos (show b ≤ i by omega), setR_2p a b l _ (by omega) (by omega), setP_0]; rfl
   ·rw [if_pos e, if_neg e2, if_pos (show a ≤ i by omega), if_neg (show ¬ b ≤ i by omega), if_pos (show a ≤ i by omega), if_neg (show ¬ b ≤ i by omega), setR_2m a b l _ (by omega) (by omega)]; rfl
  ·rw [if_neg e, if_neg (show ¬ b = i by omega), if_neg (by omega), if_neg (by omega), setR_2 a b hab l _ (by omega)]
   rfl
theorem set_same0 (l : List TVisit) : setP l [] 0 0 = setS l [] := by rw [setS_R, setR_0, setP_0]
theorem set_same1 (l : List TVisit) {a : Int} (h : 0 ≤ a) : setP l [a] 0 0 = setS l [a] := by rw [setS_R, setR_1 a l 0 h]
theorem set_same2 (l : List TVisit) {a b : Int} (h : 0 ≤ a) (hab : a ≤ b) : setP l [a, b] 0 0 = setS l [a, b] := by rw [setS_R, setR_2 a b hab l 0 h]
/-! ### Fit: the places of breaks, one behind the other -/
/-- The list's places that stand at (i, k); what is still to be tried behind them. -/
inductive AtSt (m : Nat) : Nat → List Int → List (Nat × Nat) → Prop
 | zero : AtSt m 0 [] []
 | one (i : Nat) (h : i ≤ m) : AtSt m 1 [(i : Int)] (pairsFrom 1 m (i + 1))
 | two (i k : Nat) (h : i ≤ k) (h2 : k ≤ m) : AtSt m 2 [(i : Int), (k : Int)] (rowPairs i m (k + 1) ++ pairsFrom 2 m (i + 1))
theorem laterI_1 (M a : Int) : laterI M [a] 1 = if a < M then some 0 else none := rfl
theorem laterI_2 (M a b : Int) : laterI M [a, b] 2 = if b < M then some 1 else if a < M then some 0 else none := rfl
theorem AtSt.len {m n : Nat} {a : List Int} {r : List (Nat × Nat)} (h : AtSt m n a r) : a.length = n := by cases h <;> rfl
theorem AtSt.bnd {m n : Nat} {a : List Int} {r : List (Nat × Nat)} (h : AtSt m n a r) : ∀ x ∈ a, 0 ≤ x ∧ x ≤ m := by
 cases h with
 | zero => intro x hx; cases hx
 | one i h => intro x hx; simp only [List.mem_cons, List.not_mem_nil, or_false] at hx; omega
 | two i k h h2 => intro x hx; simp only [List.mem_cons, List.not_mem_nil, or_false] at hx; omega
theorem AtSt.next {m n : Nat} {a : List Int} {r : List (Nat × Nat)} (h : AtSt m n a r) :
  (laterS m a (laterI m a a.length)).2 = false ∧ r = [] ∨ (laterS m a (laterI m a a.length)).2 = true ∧ ∃ i k r', r = (i, k) :: r' ∧ i ≤ k ∧ (laterS m a (laterI m a a.length)).1 = ([(i : Int), (k : Int)] : List Int).take n ∧ AtSt m n (laterS m a (laterI m a a.length)).1 r' := by
 cases h with
 | zero => exact .inl ⟨rfl, rfl⟩
 | one i h =>
  show (laterS m [(i : Int)] (laterI m [(i : Int)] 1)).2 = false ∧ _ ∨ _
  rw [show ([(i : Int)] : List Int).length = 1 from rfl, laterI_1]
  by_cases e : i < m
  ·rw [if_pos (by omega)]
   have e2 : (laterS m [(i : Int)] (some 0)).1 = [((i + 1 : Nat) : Int)] := by simp [laterS, laterL, rd]
   refine .inr ⟨rfl, i + 1, i + 1, pairsFrom 1 m (i + 1 + 1), ?_, Nat.le_refl _, ?_, ?_⟩
   ·rw [pairsFrom_at 1 m (i + 1) (by omega)]; rfl
   ·rw [e2]; rfl
   ·rw [e2]; exact .one (i + 1) (by omega)
  ·rw [if_neg (by omega)]
   obtain rfl : i = m := by omega
   exact .inl ⟨rfl, pairsFrom_end _ _⟩
 | two i k h h2 =>
  show (laterS m [(i : Int), (k : Int)] (laterI m [(i : Int), (k : Int)] 2)).2 = false ∧ _ ∨ _
  rw [show ([(i : Int), (k : Int)] : List Int).length = 2 from rfl, laterI_2]
  by_cases e : k < m
  ·rw [if_pos (by omega)]
   have e2 : (laterS m [(i : Int), (k : Int)] (some 1)).1 = [(i : Int), ((k + 1 : Nat) : Int)] := by simp [laterS, laterL, rd]
   refine .inr ⟨rfl, i, k + 1, rowPairs i m (k + 1 + 1) ++ pairsFrom 2 m (i + 1), ?_, by omega, ?_, ?_⟩
   ·rw [rowPairs_at i m (k + 1) (by omega)]; rfl
   ·rw [e2]; rfl
   ·rw [e2]; exact .two i (k + 1) (by omega) (by omega)
  ·rw [if_neg (by omega)]
   obtain rfl : k = m := by omega
   rw [rowPairs_end, List.nil_append]
   by_cases e : i < k
   ·rw [if_pos (by omega)]
    have e2 : (laterS k [(i : Int), (k : Int)] (some 0)).1 = [((i + 1 : Nat) : Int), ((i + 1 : Nat) : Int)] := by simp [laterS, laterL, rd, List.replicate]
    refine .inr ⟨rfl, i + 1, i + 1, rowPairs (i + 1) k (i + 1 + 1) ++ pairsFrom 2 k (i + 1 + 1), ?_, by omega, ?_, ?_⟩
    ·rw [pairsFrom_at 2 k (i + 1) (by omega), if_neg (by decide), rowPairs_at (i + 1) k (i + 1) (by omega)]; rfl
    ·rw [e2]; rfl
    ·rw [e2]; exact .two (i + 1) (i + 1) (by omega) (by omega)
   ·rw [if_neg (by omega)]
    obtain rfl : i = k := by omega
    exact .inl ⟨rfl, pairsFrom_end _ _⟩
/-! ### Fit: what the loop still answers -/
theorem ofS_err {p : TProblem} {vehicle : Int} {l : List TVisit} (h : (ofS p vehicle l).2 = 167) : ofS p vehicle l = (zPlan, 167) := by
 unfold ofS at h ⊢
 split at h
 ·cases h
 rename_i h0
 rw [if_neg h0]
 split at h
 ·rename_i h1
  rw [if_pos h1]
  exact Prod.ext rfl h
 ·rename_i h1
  rw [if_neg h1]
  revert h
  cases goS p (rdVehicle p.Vehicles vehicle) (loadsS p l) l 0 (beginTS (rdVehicle p.Vehicles vehicle) (loadsS p l)) with
  | none => intro _; rfl
  | some s =>
   show (endS p (rdVehicle p.Vehicles vehicle) vehicle (loadsS p l) l.length s).2 = 167 → endS p (rdVehicle p.Vehicles vehicle) vehicle (loadsS p l) l.length s = _
   unfold endS
   split
   ·intro _; rfl
   ·intro h; cases h
/-- Of the places at hand, and if it is too late there, of those still to be tried. -/
def stillS (p : TProblem) (vehicle : Int) (l : List TVisit) (n : Nat) (a : List Int) (r : List (Nat × Nat)) : TPlan × Int :=
 if (ofS p vehicle (setP l a 0 0)).2 = 167 then tryS p vehicle l n r else ofS p vehicle (setP l a 0 0)
theorem set_same (l : List TVisit) {m n i k : Nat} {r : List (Nat × Nat)} (h : AtSt m n (([(i : Int), (k : Int)] : List Int).take n) r) (hik : i ≤ k) : setP l (([(i : Int), (k : Int)] : List Int).take n) 0 0 = setS l (([(i : Int), (k : Int)] : List Int).take n) := by
 cases n with
 | zero => exact set_same0 l
 | succ n =>
  cases n with
  | zero => exact set_same1 l (by omega)
  | succ n =>
   have := h.len
   simp only [List.take_succ_cons, List.take_nil]
   exact set_same2 l (by omega) (by omega)
theorem stillS_next {p : TProblem} {vehicle : Int} {l : List TVisit} {m n : Nat} {a : List Int} {r : List (Nat × Nat)} (h : AtSt m n a r) (he : (ofS p vehicle (setP l a 0 0)).2 = 167) :
  (laterS m a (laterI m a a.length)).2 = false ∧ stillS p vehicle l n a r = ofS p vehicle (setP l a 0 0) ∨
  (laterS m a (laterI m a a.length)).2 = true ∧ ∃ r', AtSt m n (laterS m a (laterI m a a.length)).1 r' ∧ r'.length < r.length ∧ stillS p vehicle l n a r = stillS p vehicle l n (laterS m a (laterI m a a.length)).1 r' := by
 unfold stillS
 rw [if_pos he]
 rcases h.next with ⟨h1, rfl⟩ | ⟨h1, i, k, r', rfl, hik, h2, h3⟩
 ·exact .inl ⟨h1, by rw [ofS_err he]; rfl⟩
 ·refine .inr ⟨h1, r', h3, by simp, ?_⟩
  rw [tryS]
  rw [h2] at h3 ⊢
  rw [set_same l h3 hik]
theorem fitS_start {p : TProblem} {vehicle : Int} {l : List TVisit} (hv : ¬ (vehicle < 0 ∨ (p.Vehicles.length : Int) ≤ vehicle)) (hk : ¬ l.any (fun x => decide (x.Kind = 4)) = true) (hn : (rdVehicle p.Vehicles vehicle).Breaks.length ≤ 2) :
  ∃ r, AtSt l.length (rdVehicle p.Vehicles vehicle).Breaks.length (List.replicate (rdVehicle p.Vehicles vehicle).Breaks.length 0) r ∧ stillS p vehicle l (rdVehicle p.Vehicles vehicle).Breaks.length (List.replicate (rdVehicle p.Vehicles vehicle).Breaks.length 0) r = fitS p vehicle l := by
 unfold fitS
 rw [if_neg hv, if_neg hk]
 generalize (rdVehicle p.Vehicles vehicle).Breaks.length = n at *
 match n, hn with
 | 0, _ =>
  refine ⟨[], .zero, ?_⟩
  rw [if_pos rfl]
  unfold stillS
  show (if (ofS p vehicle (setP l [] 0 0)).2 = 167 then _ else _) = _
  rw [setP_0]
  split
  ·rename_i h
   rw [ofS_err h]; rfl
  ·rw [show (List.replicate 0 (0 : Int)) = [] from rfl, setP_0]
 | 1, _ =>
  refine ⟨pairsFrom 1 l.length 1, .one 0 (Nat.zero_le _), ?_⟩
  rw [if_neg (by decide), pairsFrom_at 1 l.length 0 (Nat.zero_le _), if_pos rfl, List.singleton_append, tryS]
  unfold stillS
  show _ = if (ofS p vehicle (setS l [((0 : Nat) : Int)])).2 = 167 then _ else ofS p vehicle (setS l [((0 : Nat) : Int)])
  rw [← set_same1 l (show (0 : Int) ≤ ((0 : Nat) : Int) by omega)]
  rfl
 | 2, _ =>
  refine ⟨rowPairs 0 l.length 1 ++ pairsFrom 2 l.length 1, .two 0 0 (Nat.le_refl _) (Nat.zero_le _), ?_⟩
  rw [if_neg (by decide), pairsFrom_at 2 l.length 0 (Nat.zero_le _), if_neg (by decide), rowPairs_at 0 l.length 0 (Nat.zero_le _), List.cons_append, tryS]
  unfold stillS
  show _ = if (ofS p vehicle (setS l [((0 : Nat) : Int), ((0 : Nat) : Int)])).2 = 167 then _ else ofS p vehicle (setS l [((0 : Nat) : Int), ((0 : Nat) : Int)])
  rw [← set_same2 l (show (0 : Int) ≤ ((0 : Nat) : Int) by omega) (Int.le_refl _)]
  rfl
/-- What is still to be tried behind the places a. -/
def restOf (m : Nat) (a : List Int) : List (Nat × Nat) :=
 match a with
 | [i] => pairsFrom 1 m (i.toNat + 1)
 | [i, k] => rowPairs i.toNat m (k.toNat + 1) ++ pairsFrom 2 m (i.toNat + 1)
 | _ => []
theorem AtSt.rest {m n : Nat} {a : List Int} {r : List (Nat × Nat)} (h : AtSt m n a r) : r = restOf m a := by
 cases h with
 | zero => rfl
 | one i h => rfl
 | two i k h h2 => rfl
/-! ### the checks -/
def firstNZ : List Int → Int
 | [] => 0
 | e :: r => if e ≠ 0 then e else firstNZ r
def checksP (p : TProblem) (v : TVehicle) (l : List TVisit) : List Int :=
 [pairsE (pairsP p l [] 0), breaksE v (breaksP l 0), if skillsB p v.Skills l = true then 0 else 163, if v.MaxTasks < tasksP l 0 then 164 else 0, capE v (loadsP p l), travelS p v.End v.Start l]
theorem first_same {p : TProblem} (ha : AmtLens p) (v : TVehicle) (l : List TVisit) : firstNZ (checksP p v l) = firstS p v l := by
 unfold checksP firstS
 rw [pairs_same]
 by_cases hp : pairsB p l = false
 ·rw [if_pos hp, hp]; rfl
 ·have hp2 : pairsB p l = true := by simpa using hp
  rw [if_neg hp, scan_same, hp2]
  have hp' : pairsP p l [] 0 = true := by rw [pairs_same]; exact hp2
  have hk : ∀ x ∈ l, x.Kind = 3 → (⟨2, x.Item⟩ : TVisit) ∈ l := by
   intro x hx h3
   obtain ⟨k, hk, rfl⟩ := List.mem_iff_getElem.1 hx
   have := (((pairsP_iff p l [] 0 (fun y hy => by cases hy)).1 hp').1 k hk (by omega)).2.2 h3
   rw [List.nil_append] at this
   exact List.mem_of_mem_take this
  rw [skills_same p v.Skills l hk, loadsP_same ha]
  show firstNZ (breaksE v (breaksP l 0) :: _) = _
  cases breaksP l 0 with
  | none => rfl
  | some n =>
   show firstNZ ((if n = v.Breaks.length then 0 else 162) :: _) = afterS p v l (some (n, tasksP l 0, wantS p l 0))
   show _ = if n ≠ v.Breaks.length then 162 else if bits .andNot .u64 (wantS p l 0) v.Skills ≠ 0 then 163 else if v.MaxTasks < tasksP l 0 then 164 else if (loadsS p l).all (fun x => underB x v.Cap) = false then 165 else travelS p v.End v.Start l
   unfold capE
   by_cases h1 : n = v.Breaks.length
   ·rw [if_pos h1, if_neg (show ¬ n ≠ v.Breaks.length by simpa using h1)]
    show firstNZ (_ :: _) = _
    by_cases h2 : bits .andNot .u64 (wantS p l 0) v.Skills = 0
    ·rw [if_pos (decide_eq_true h2), if_neg (show ¬ bits .andNot .u64 (wantS p l 0) v.Skills ≠ 0 by simpa using h2)]
     show firstNZ (_ :: _) = _
     by_cases h3 : v.MaxTasks < tasksP l 0
     ·rw [if_pos h3, if_pos h3]; rfl
     ·rw [if_neg h3, if_neg h3]
      show firstNZ (_ :: _) = _
      by_cases h4 : (loadsS p l).all (fun x => underB x v.Cap) = false
      ·rw [if_pos h4, if_pos h4]; rfl
      ·rw [if_neg h4, if_neg h4]
       show (if travelS p v.End v.Start l ≠ 0 then _ else 0) = _
       split
       ·rfl
       ·rename_i h; exact (Decidable.of_not_not h).symm
    ·rw [if_neg (by simpa using h2), if_pos h2]; rfl
   ·rw [if_neg h1, if_pos h1]; rfl
end Go.Proofs.Ytemjpgmfignhnaa
/- Contract: does the vehicle have all skills that its visits want? The program's skills.
Conditions: at most 200 visits. -/
namespace Go.Proofs.Ytemjpgmfignhnaa
open Go.RowKit Go.Proofs.YtemjpgmfignhnaaW.PrintWords Go.Proofs.YtemjpgmfignhnaaW.PrintLast Go.Proofs.YtemjpgmfignhnaaW.PrintMore
set_option linter.unusedVariables false
set_option linter.unusedSimpArgs false
attribute [local go_sem] cell_growBy Option.some_or
theorem covers_any (s k : Int) (w : World) : Calls Try.prog 119 #[.int .u64 s, .int .u64 k] w fun e w' => e = .returned (.bool (bits .andNot .u64 k s == 0)) ∧ w = w' := by
 go_enter Try.func119, Try.ntmps119
 go_wp2
 go_ret
 exact ⟨rfl, rfl⟩
theorem skillsB_at (p : TProblem) (sk : Int) (l : List TVisit) (k : Nat) (h : k < l.length) : skillsB p sk (l.drop k) = ((!(taskOf l[k]).2 || covB p sk l[k]) && skillsB p sk (l.drop (k + 1))) := by
 rw [List.drop_eq_getElem_cons h, skillsB, List.all_cons]
 rfl
set_option maxHeartbeats 16000000 in
set_option maxRecDepth 100000 in
theorem planSkills_any (q : PV) (p : TProblem) (v : TVehicle) (AC AB : Option Addr) (cC cB : Nat) (l : List TVisit) (A : Option Addr) (c : Nat) (w : World) (hlp : Good p) (hq : q.Ok p w) (hr : Kd.C kVisit w A l.length l) (hl : l.length ≤ 200) :
  Calls Try.prog 97 #[q.val p, vehVal v AC AB cC cB, .slice A l.length c] w fun e w' => e = .returned (.int .i64 (if skillsB p v.Skills l = true then 0 else 163)) ∧ Below w.heap.size w w' := by
 have HR := Aside0.mk hr
 have HSK := Aside0.mk (fun (t : TTask) W (hb : Below w.heap.size w W) => skills_any q p t W hlp.toLens (hq.below hb))
 clear hr
 generalize hres : (if skillsB p v.Skills l = true then (0 : Int) else 163) = r
 have HFS : Aside0 ((if skillsB p v.Skills (l.drop 0) = true then (0 : Int) else 163) = r) := ⟨hres⟩
 obtain ⟨a1, c1, a2, c2, a3, c3, a4, c4, a5, c5⟩ := q
 clear hq hlp hres
 unfold PV.val at HSK ⊢
 unfold vehVal
 go_enter Try.func97, Try.ntmps97
 go_wp2
 go_loopw [13] (fun vi wr => ∃ k : Nat, k ≤ l.length ∧ vi = .int .i64 k ∧ Aside0 ((if skillsB p v.Skills (l.drop k) = true then (0 : Int) else 163) = r) ∧ Aside0 (Below (w.heap.size + 1 + 1) ((w.alloc (.cells #[.int .i64 p.Dims, .int .i64 p.Time.N, .slice a1 p.Time.Cells.length c1, .int .i64 p.Dist.N, .slice a2 p.Dist.Cells.length c2, .slice a3 p.Vehicles.length c3, .slice a4 p.Jobs.length c4, .slice a5 p.Shipments.length c5] 29)).alloc (.cells #[.int .i64 v.Start, .int .i64 v.End, .slice AC v.Cap.length cC, .int .u64 v.Skills, .int .i64 v.Shift.From, .int .i64 v.Shift.To, .int .i64 v.Fixed, .int .i64 v.PerTime, .int .i64 v.PerDist, .int .i64 v.MaxTasks, .slice AB v.Breaks.length cB] 89)) wr)) (fun vi _ => l.length - (intOf vi).toNat)
 case atStart => exact ⟨0, Nat.zero_le _, rfl, HFS, ⟨Below.refl _ _⟩⟩
 case round =>
  clear HFS
  obtain ⟨k, hk, rfl, HFS, HW⟩ := hrel
  have HW' : Aside0 (Below ((w.alloc (.cells #[.int .i64 p.Dims, .int .i64 p.Time.N, .slice a1 p.Time.Cells.length c1, .int .i64 p.Dist.N, .slice a2 p.Dist.Cells.length c2, .slice a3 p.Vehicles.length c3, .slice a4 p.Jobs.length c4, .slice a5 p.Shipments.length c5] 29)).alloc (.cells #[.int .i64 v.Start, .int .i64 v.End, .slice AC v.Cap.length cC, .int .u64 v.Skills, .int .i64 v.Shift.From, .int .i64 v.Shift.To, .int .i64 v.Fixed, .int .i64 v.PerTime, .int .i64 v.PerDist, .int .i64 v.MaxTasks, .slice AB v.Breaks.length cB] 89)).heap.size ((w.alloc (.cells #[.int .i64 p.Dims, .int .i64 p.Time.N, .slice a1 p.Time.Cells.length c1, .int .i64 p.Dist.N, .slice a2 p.Dist.Cells.length c2, .slice a3 p.Vehicles.length c3, .slice a4 p.Jobs.length c4, .slice a5 p.Shipments.length c5] 29)).alloc (.cells #[.int .i64 v.Start, .int .i64 v.End, .slice AC v.Cap.length cC, .int .u64 v.Skills, .int .i64 v.Shift.From, .int .i64 v.Shift.To, .int .i64 v.Fixed, .int .i64 v.PerTime, .int .i64 v.PerDist, .int .i64 v.MaxTasks, .slice AB v.Breaks.length cB] 89)) wr) := ⟨by simpa using HW.out⟩
  have HB0 : Aside0 (Below w.heap.size w wr) := ⟨below_to (below_alloc (below_alloc (Below.refl _ _) _) _) HW'.out⟩
  have hszr : w.heap.size + 1 < wr.heap.size := by
   have := HW'.out.size
   simp at this
   omega
  have hszr' : w.heap.size < wr.heap.size := by omega
  by_cases hlt : k < l.length
  ·obtain ⟨ad, ea, x0, x1⟩ := atNVisit (Kd.C_below HR.out HB0.out) k hlt
   subst ea
   have hpb : wr.heap[w.heap.size]? = some (.cells #[.int .i64 p.Dims, .int .i64 p.Time.N, .slice a1 p.Time.Cells.length c1, .int .i64 p.Dist.N, .slice a2 p.Dist.Cells.length c2, .slice a3 p.Vehicles.length c3, .slice a4 p.Jobs.length c4, .slice a5 p.Shipments.length c5] 29) := blk_below (blk_alloc (blk_new _ _) _) HW'.out
   have hvb : wr.heap[w.heap.size + 1]? = some (.cells #[.int .i64 v.Start, .int .i64 v.End, .slice AC v.Cap.length cC, .int .u64 v.Skills, .int .i64 v.Shift.From, .int .i64 v.Shift.To, .int .i64 v.Fixed, .int .i64 v.PerTime, .int .i64 v.PerDist, .int .i64 v.MaxTasks, .slice AB v.Breaks.length cB] 89) := blk_below (blk_is (by simp)) HW'.out
   have HPB := Aside0.mk hpb
   have HVB := Aside0.mk hvb
   have r0 : (0 : Int) ≤ (k : Int) := by omega
   have r1 : (k : Int) < (l.length : Int) := by omega
   have hs := HFS.out
   rw [skillsB_at p v.Skills l k hlt] at hs
   generalize hx : l[k] = x at *
   clear HFS hpb hvb
   unfold covB at hs
   generalize hto : taskOf x = y at *
   obtain ⟨⟨sh, it⟩, is⟩ := y
   have HTO := Aside0.mk hto
   dsimp only at hs
   have HS := Aside0.mk hs
   clear hto hs
   go_upto_region 5 with (go_at_call 41; refine (of_any x _).mono ?_; rintro e w3 ⟨rfl, hb⟩; rw [HTO.out]; obtain ⟨qc3, qf3⟩ := bcell hb; have HB3 := Aside0.mk (show Below wr.heap.size wr w3 from below_to chn hb); have hs3 := hb.size; clear hb)
   refine gen_wp (fun W => Below wr.heap.size wr W ∧ W.heap[w3.heap.size]? = some (.cells #[.bool sh, .int .i64 it] 48 (0, 0))) ⟨below_to HB3.out chn, blk_new _ _⟩ (fun wq HQq => ?_)
   have hpb := blk_below HPB.out HQq.out.1
   have hvb := blk_below HVB.out HQq.out.1
   have htb := HQq.out.2
   obtain ⟨p0, p1, p2, p3, p4, p5, p6, p7⟩ := cells8 hpb; have hpw := blk_lt hpb
   have v3 := blk_cell hvb 3
   have t0 := blk_cell htb 0
   have t1 := blk_cell htb 1
   simp only [List.getElem?_toArray, List.getElem?_cons_succ, List.getElem?_cons_zero] at v3 t0 t1
   have hvw := blk_lt hvb
   have htw := blk_lt htb
   clear hpb hvb htb x0 x1 qc3 qf3 hs3
   cases is
   ·have hN : (if skillsB p v.Skills (l.drop (k + 1)) = true then (0 : Int) else 163) = r := by simpa using HS.out
    have HN := Aside0.mk hN
    clear HS hN
    refine wp_region_held_drew (S := fun W' => Below wq.heap.size wq W' ∧ ∀ a : Addr, a.block < wq.heap.size → W'.cell? a = wq.cell? a) (by kernel_rfl) (hl_start _) (fun hHeld => ?_)
    refine (show wpAnyH _ _ _ _ _ 10 (Array.replicate 10 false) _ _ from ?_)
    refine tk 0 (h := ?_)
    refine tk 1 (h := ?_)
    refine wpAnyH_take (i := 2) (oi := _) (v := undef) (by simp only [List.getElem?_toArray, List.getElem?_cons_succ, List.getElem?_cons_zero]; rfl) (by kernel_rfl) (by kernel_rfl) (by kernel_rfl) (by exact fun _ _ _ h => h) (Or.inr ⟨by rfl, rfl⟩) (by assumption) ?_
    (try simp only [Act.put, List.setIfInBounds_toArray, List.set_cons_zero, List.set_cons_succ])
    refine wpAnyH_take (i := 3) (oi := _) (v := undef) (by simp only [List.getElem?_toArray, List.getElem?_cons_succ, List.getElem?_cons_zero]; rfl) (by kernel_rfl) (by kernel_rfl) (by kernel_rfl) (by exact fun _ _ _ h => h) (Or.inr ⟨by rfl, rfl⟩) (by assumption) ?_
    (try simp only [Act.put, List.setIfInBounds_toArray, List.set_cons_zero, List.set_cons_succ])
    refine wpAnyH_take (i := 4) (oi := _) (v := undef) (by simp only [List.getElem?_toArray, List.getElem?_cons_succ, List.getElem?_cons_zero]; rfl) (by kernel_rfl) (by kernel_rfl) (by kernel_rfl) (by exact fun _ _ _ h => h) (Or.inr ⟨by rfl, rfl⟩) (by assumption) ?_
    (try simp only [Act.put, List.setIfInBounds_toArray, List.set_cons_zero, List.set_cons_succ])
    refine wpAnyH_take (i := 5) (oi := _) (v := undef) (by simp only [List.getElem?_toArray, List.getElem?_cons_succ, List.getElem?_cons_zero]; rfl) (by kernel_rfl) (by kernel_rfl) (by kernel_rfl) (by exact fun _ _ _ h => h) (Or.inr ⟨by rfl, rfl⟩) (by assumption) ?_
    (try simp only [Act.put, List.setIfInBounds_toArray, List.set_cons_zero, List.set_cons_succ])
    refine wpAnyH_take (i := 6) (oi := _) (v := undef) (by simp only [List.getElem?_toArray, List.getElem?_cons_succ, List.getElem?_cons_zero]; rfl) (by kernel_rfl) (by kernel_rfl) (by kernel_rfl) (by exact fun _ _ _ h => h) (Or.inr ⟨by rfl, rfl⟩) (by assumption) ?_
    (try simp only [Act.put, List.setIfInBounds_toArray, List.set_cons_zero, List.set_cons_succ])
    refine wpAnyH_take (i := 7) (oi := _) (v := undef) (by simp only [List.getElem?_toArray, List.getElem?_cons_succ, List.getElem?_cons_zero]; rfl) (by kernel_rfl) (by kernel_rfl) (by kernel_rfl) (by exact fun _ _ _ h => h) (Or.inr ⟨by rfl, rfl⟩) (by assumption) ?_
    (try simp only [Act.put, List.setIfInBounds_toArray, List.set_cons_zero, List.set_cons_succ])
    refine wpAnyH_take (i := 8) (oi := _) (v := undef) (by simp only [List.getElem?_toArray, List.getElem?_cons_succ, List.getElem?_cons_zero]; rfl) (by kernel_rfl) (by kernel_rfl) (by kernel_rfl) (by exact fun _ _ _ h => h) (Or.inr ⟨by rfl, rfl⟩) (by assumption) ?_
    (try simp only [Act.put, List.setIfInBounds_toArray, List.set_cons_zero, List.set_cons_succ])
    refine tk 9 (h := ?_)
    refine wpAnyH_done (by kernel_rfl) ?_ _
    all_goals
     go_wp2_with fail
     go_roundw
     case rel => exact ⟨k + 1, by omega, by go_num, HN, ⟨by simpa using below_to HW'.out (show Below wr.heap.size wr _ from below_to HQq.out.1 (And.left (show Below wq.heap.size wq _ ∧ _ from by assumption)))⟩⟩
     case measure => simp [intOf] <;> omega
   ·by_cases hc : bits .andNot .u64 (factsS p ⟨sh, it⟩).2 v.Skills = 0
    ·have hN : (if skillsB p v.Skills (l.drop (k + 1)) = true then (0 : Int) else 163) = r := by simpa [hc] using HS.out
     have HN := Aside0.mk hN
     have dc : (bits .andNot .u64 (factsS p ⟨sh, it⟩).2 v.Skills == 0) = true := by simp [hc]
     clear HS hN hc
     refine wp_region_held_drew (S := fun W' => Below wq.heap.size wq W' ∧ ∀ a : Addr, a.block < wq.heap.size → W'.cell? a = wq.cell? a) (by kernel_rfl) (hl_start _) (fun hHeld => ?_)
     refine (show wpAnyH _ _ _ _ _ 10 (Array.replicate 10 false) _ _ from ?_)
     refine tk 0 (h := ?_)
     refine tk 1 (h := ?_)
     refine tk 2 (h := ?_)
     refine tk 3 (h := ?_)
     refine tk 4 (h := ?_)
     refine tk 5 (h := ?_)
     refine wpAnyH_ready (rs := [6]) (by kernel_rfl) (by simp) ?_
     refine rcn (fun K hK => ?_) AllReadyH.nil
     go_simp
     with_reducible refine (HSK.out ⟨sh, it⟩ _ (below_to HB0.out (below_to HQq.out.1 (And.left (show Below wq.heap.size wq _ ∧ _ from by assumption))))).mono ?_; rintro e w4 ⟨rfl, hb⟩; obtain ⟨qcs, qfs⟩ := bcell hb; dsimp only
     clear hHeld
     refine hko hK _ _ _ (hl_of chn) (fun hHeld => ?_)
     clear hK K
     refine wpAnyH_ready (rs := [7]) (by kernel_rfl) (by simp) ?_
     refine rcn (fun K hK => ?_) AllReadyH.nil
     go_simp
     refine (covers_any _ _ _).mono ?_; rintro e w5 ⟨rfl, rfl⟩; dsimp only
     clear hHeld
     refine hko hK _ _ _ (hl_of chn) (fun hHeld => ?_)
     clear hK K
     refine tk 8 (h := ?_)
     refine tk 9 (h := ?_)
     refine wpAnyH_done (by kernel_rfl) ?_ _
     all_goals
      go_wp2_with fail
      go_roundw
      case rel => exact ⟨k + 1, by omega, by go_num, HN, ⟨by simpa using below_to HW'.out (show Below wr.heap.size wr _ from below_to HQq.out.1 (And.left (show Below wq.heap.size wq _ ∧ _ from by assumption)))⟩⟩
      case measure => simp [intOf] <;> omega
    ·have hN : (163 : Int) = r := by simpa [hc] using HS.out
     have dc : (bits .andNot .u64 (factsS p ⟨sh, it⟩).2 v.Skills == 0) = false := by simp [hc]
     subst hN
     clear HS hc
     refine wp_region_held_drew (S := fun W' => Below wq.heap.size wq W' ∧ ∀ a : Addr, a.block < wq.heap.size → W'.cell? a = wq.cell? a) (by kernel_rfl) (hl_start _) (fun hHeld => ?_)
     refine (show wpAnyH _ _ _ _ _ 10 (Array.replicate 10 false) _ _ from ?_)
     refine tk 0 (h := ?_)
     refine tk 1 (h := ?_)
     refine tk 2 (h := ?_)
     refine tk 3 (h := ?_)
     refine tk 4 (h := ?_)
     refine tk 5 (h := ?_)
     refine wpAnyH_ready (rs := [6]) (by kernel_rfl) (by simp) ?_
     refine rcn (fun K hK => ?_) AllReadyH.nil
     go_simp
     with_reducible refine (HSK.out ⟨sh, it⟩ _ (below_to HB0.out (below_to HQq.out.1 (And.left (show Below wq.heap.size wq _ ∧ _ from by assumption))))).mono ?_; rintro e w4 ⟨rfl, hb⟩; obtain ⟨qcs, qfs⟩ := bcell hb; dsimp only
     clear hHeld
     refine hko hK _ _ _ (hl_of chn) (fun hHeld => ?_)
     clear hK K
     refine wpAnyH_ready (rs := [7]) (by kernel_rfl) (by simp) ?_
     refine rcn (fun K hK => ?_) AllReadyH.nil
     go_simp
     refine (covers_any _ _ _).mono ?_; rintro e w5 ⟨rfl, rfl⟩; dsimp only
     clear hHeld
     refine hko hK _ _ _ (hl_of chn) (fun hHeld => ?_)
     clear hK K
     refine tk 8 (h := ?_)
     refine tk 9 (h := ?_)
     refine wpAnyH_done (by kernel_rfl) ?_ _
     all_goals
      go_wp2_with fail
      go_ret
      exact ⟨rfl, below_to HB0.out (below_to HQq.out.1 (And.left (show Below wq.heap.size wq _ ∧ _ from by assumption)))⟩
  ·obtain rfl : k = l.length := by omega
   have hs := HFS.out
   rw [List.drop_of_length_le (Nat.le_refl _)] at hs
   have hs' : (0 : Int) = r := by simpa [skillsB] using hs
   subst hs'
   clear HFS hs
   go_wp2
   go_ret
   exact ⟨rfl, HB0.out⟩
end Go.Proofs.Ytemjpgmfignhnaa

/- Contract: the plan of a list of visits, or the first error. The program's Of.
Conditions: a lawful problem, at most 200 visits. -/
namespace Go.Proofs.Ytemjpgmfignhnaa
open Go.RowKit Go.Proofs.YtemjpgmfignhnaaW.PrintWords Go.Proofs.YtemjpgmfignhnaaW.PrintLast Go.Proofs.YtemjpgmfignhnaaW.PrintMore
set_option linter.unusedVariables false
set_option linter.unusedSimpArgs false
attribute [local go_sem] cell_growBy Option.some_or
set_option maxHeartbeats 400000000 in
set_option maxRecDepth 100000 in
theorem planOf_any (q : PV) (p : TProblem) (vehicle : Int) (l : List TVisit) (A : Option Addr) (c : Nat) (w : World) (hlp : Good p) (law : Law p) (hq : q.Ok p w) (hr : Kd.C kVisit w A l.length l) (hl : l.length ≤ 200) :
  Calls Try.prog 49 #[q.val p, .int .i64 vehicle, .slice A l.length c] w (PlanPost (ofS p vehicle l) w) := by
 have hnv := law.nv
 have HR := Aside0.mk hr
 have HQ := Aside0.mk hq
 by_cases hv0 : vehicle < 0
 ·have e : ofS p vehicle l = (zPlan, 160) := by unfold ofS; rw [if_pos (.inl hv0)]
  rw [e]
  have d1 : decide (vehicle < 0) = true := decide_eq_true hv0
  clear e hr hq hlp law hv0
  unfold PV.val
  go_enter Try.func49, Try.ntmps49
  go_wp2
  exact bodyPost_ret (v := .tuple #[.agg #[.int .i64 0, .slice none 0 0, .int .i64 0, .int .i64 0, .int .i64 0, .int .i64 0, .int .i64 0], .int .i64 160]) (by simp [results, Try.results49, go_sem, *]) rfl ⟨none, 0, rfl, Nat.le_refl _, Kd.F_nil _ _ _, clb⟩
 by_cases hv1 : (p.Vehicles.length : Int) ≤ vehicle
 ·have e : ofS p vehicle l = (zPlan, 160) := by unfold ofS; rw [if_pos (.inr hv1)]
  rw [e]
  have d0 : decide (vehicle < 0) = false := decide_eq_false hv0
  have d1 : decide ((p.Vehicles.length : Int) ≤ vehicle) = true := decide_eq_true hv1
  clear e hr hq hlp law hv0 hv1
  unfold PV.val
  go_enter Try.func49, Try.ntmps49
  go_wp2
  exact bodyPost_ret (v := .tuple #[.agg #[.int .i64 0, .slice none 0 0, .int .i64 0, .int .i64 0, .int .i64 0, .int .i64 0, .int .i64 0], .int .i64 160]) (by simp [results, Try.results49, go_sem, *]) rfl ⟨none, 0, rfl, Nat.le_refl _, Kd.F_nil _ _ _, clb⟩
 have d0 : decide (vehicle < 0) = false := decide_eq_false hv0
 have d1 : decide ((p.Vehicles.length : Int) ≤ vehicle) = false := decide_eq_false hv1
 have hi0 : 0 ≤ vehicle := by omega
 have hi1 : vehicle < (p.Vehicles.length : Int) := by omega
 have HTM := Aside0.mk (fun (hf : firstS p (rdVehicle p.Vehicles vehicle) l = 0) W (hb : Below w.heap.size w W) => planTimes_any q p vehicle l A c W hlp law (hq.below hb) (Kd.C_below hr hb) hl hi0 hi1 hf)
 have hfs := first_same law.amts.toAmtLens (rdVehicle p.Vehicles vehicle) l
 have eof : ofS p vehicle l = if firstS p (rdVehicle p.Vehicles vehicle) l ≠ 0 then (zPlan, firstS p (rdVehicle p.Vehicles vehicle) l) else
   runS p (rdVehicle p.Vehicles vehicle) vehicle l (goS p (rdVehicle p.Vehicles vehicle) (loadsS p l) l 0 (beginTS (rdVehicle p.Vehicles vehicle) (loadsS p l))) := by
  unfold ofS
  rw [if_neg (fun h => h.elim hv0 hv1)]
 obtain ⟨av, AC, cC, AB, cB, eav, v0, v1, v2, v3, v4, v5, v6, v7, v8, v9, v10, lC, gC, lB, gB⟩ := atVehicle hq.h3 vehicle (by omega) (by omega)
 generalize rdVehicle p.Vehicles vehicle = v at *
 have HC1 := Aside0.mk (fun W (hb : Below w.heap.size w W) => planPairs_any q p v AC AB cC cB l A c W hlp law (hq.below hb) (Kd.C_below hr hb) hl)
 have HC2 := Aside0.mk (fun W (hb : Below w.heap.size w W) => planBreaks_any q p v AC AB cC cB l A c W (Kd.C_below hr hb) hl)
 have HC3 := Aside0.mk (fun W (hb : Below w.heap.size w W) => planSkills_any q p v AC AB cC cB l A c W hlp (hq.below hb) (Kd.C_below hr hb) hl)
 have HC4 := Aside0.mk (fun W (hb : Below w.heap.size w W) => planTasks_any q p v AC AB cC cB l A c W (Kd.C_below hr hb) hl)
 have HC5 := Aside0.mk (fun W (hb : Below w.heap.size w W) => planCap_any q p v AC AB cC cB l A c W hlp law (hq.below hb) (Kd.C_below hr hb) hl (Kd.C_below gC hb))
 have HC6 := Aside0.mk (fun W (hb : Below w.heap.size w W) => planTravel_any q p v AC AB cC cB l A c W hlp law (hq.below hb) (Kd.C_below hr hb) hl)
 obtain ⟨F, hF⟩ : ∃ F, F = firstNZ (checksP p v l) := ⟨_, rfl⟩
 have hfs2 : firstS p v l = F := by rw [hF, hfs]
 have HF0 : Aside0 (firstNZ ((checksP p v l).drop 0) = F) := ⟨hF.symm⟩
 have HRF : Aside0 ((F != 0) = true → ofS p vehicle l = (zPlan, F)) := ⟨fun h => by rw [eof, hfs2, if_pos (by simpa using h)]⟩
 have HRT : Aside0 (F = 0 → ofS p vehicle l = runS p v vehicle l (goS p v (loadsS p l) l 0 (beginTS v (loadsS p l)))) := ⟨fun h => by rw [eof, hfs2, if_neg (by simpa using h)]⟩
 have HFS := Aside0.mk hfs2
 obtain ⟨a1, c1, a2, c2, a3, c3, a4, c4, a5, c5⟩ := q
 have eav' : a3 = some av := eav
 subst eav'
 have al := fun (a : Addr) (u : Value) (h : w.cell? a = some u) => alloc_cell (alloc_cell h (.cells #[.int .i64 p.Dims, .int .i64 p.Time.N, .slice a1 p.Time.Cells.length c1, .int .i64 p.Dist.N, .slice a2 p.Dist.Cells.length c2, .slice (some av) p.Vehicles.length c3, .slice a4 p.Jobs.length c4, .slice a5 p.Shipments.length c5] 29 (0, 0))) (.cells #[.int .i64 0, .slice none 0 0, .int .i64 0, .int .i64 0, .int .i64 0, .int .i64 0, .int .i64 0] 74 (0, 0))
 have v0' := al _ _ v0
 have v1' := al _ _ v1
 have v2' := al _ _ v2
 have v3' := al _ _ v3
 have v4' := al _ _ v4
 have v5' := al _ _ v5
 have v6' := al _ _ v6
 have v7' := al _ _ v7
 have v8' := al _ _ v8
 have v9' := al _ _ v9
 have v10' := al _ _ v10
 clear al
 clear hr hq hlp law eav lC gC lB gB v0 v1 v2 v3 v4 v5 v6 v7 v8 v9 v10 hF hfs hfs2 eof hv0 hv1
 unfold PV.val at HC1 HC2 HC3 HC4 HC5 HC6 HTM ⊢
 unfold vehVal at HC1 HC2 HC3 HC4 HC5 HC6
 generalize ofS p vehicle l = RR at *
 go_enter Try.func49, Try.ntmps49
 go_upto_region 4 with fail
 clear v0' v1' v2' v3' v4' v5' v6' v7' v8' v9' v10'
 refine gen_wp (fun W => Below w.heap.size w W ∧ W.heap[w.heap.size]? = some (.cells #[.int .i64 p.Dims, .int .i64 p.Time.N, .slice a1 p.Time.Cells.length c1, .int .i64 p.Dist.N, .slice a2 p.Dist.Cells.length c2, .slice (some av) p.Vehicles.length c3, .slice a4 p.Jobs.length c4, .slice a5 p.Shipments.length c5] 29 (0, 0)) ∧ W.heap[w.heap.size + 1]? = some (.cells #[.int .i64 0, .slice none 0 0, .int .i64 0, .int .i64 0, .int .i64 0, .int .i64 0, .int .i64 0] 74 (0, 0)) ∧ W.heap[w.heap.size + 1 + 1]? = some (.cells #[.int .i64 v.Start, .int .i64 v.End, .slice AC v.Cap.length cC, .int .u64 v.Skills, .int .i64 v.Shift.From, .int .i64 v.Shift.To, .int .i64 v.Fixed, .int .i64 v.PerTime, .int .i64 v.PerDist, .int .i64 v.MaxTasks, .slice AB v.Breaks.length cB] 89 (0, 0)))
  ⟨chn, blk_alloc (blk_alloc (blk_new _ _) _) _, blk_alloc (blk_is (by simp)) _, blk_is (by simp)⟩ (fun w3 H3 => ?_)
 go_wp2
 go_loopw [29] (fun vi wr => ∃ k : Nat, k ≤ 6 ∧ vi = .int .i64 k ∧ Aside0 (firstNZ ((checksP p v l).drop k) = F) ∧ Aside0 (Below (w3.alloc (.cells #[(.func (.func 95) #[] #[]), (.func (.func 96) #[] #[]), (.func (.func 97) #[] #[]), (.func (.func 98) #[] #[]), (.func (.func 99) #[] #[]), (.func (.func 100) #[] #[])] 148 (0, 0))).heap.size (w3.alloc (.cells #[(.func (.func 95) #[] #[]), (.func (.func 96) #[] #[]), (.func (.func 97) #[] #[]), (.func (.func 98) #[] #[]), (.func (.func 99) #[] #[]), (.func (.func 100) #[] #[])] 148 (0, 0))) wr)) (fun vi _ => 6 - (intOf vi).toNat)
 case atStart => exact ⟨0, by omega, rfl, HF0, ⟨Below.refl _ _⟩⟩
 case round =>
  clear HF0
  obtain ⟨k, hk, rfl, HF, HW⟩ := hrel
  have HB3 : Aside0 (Below w3.heap.size w3 wr) := ⟨below_to (below_alloc (Below.refl _ _) _) HW.out⟩
  have HB0 : Aside0 (Below w.heap.size w wr) := ⟨below_to H3.out.1 HB3.out⟩
  have hpb := blk_below H3.out.2.1 HB3.out
  have HZB := Aside0.mk (blk_below H3.out.2.2.1 HB3.out)
  have hvb := blk_below H3.out.2.2.2 HB3.out
  have hfb : wr.heap[w3.heap.size]? = some (.cells #[(.func (.func 95) #[] #[]), (.func (.func 96) #[] #[]), (.func (.func 97) #[] #[]), (.func (.func 98) #[] #[]), (.func (.func 99) #[] #[]), (.func (.func 100) #[] #[])] 148 (0, 0)) := blk_below (blk_new _ _) HW.out
  have hzb := HZB.out
  obtain ⟨p0, p1, p2, p3, p4, p5, p6, p7⟩ := cells8 hpb; have hpw := blk_lt hpb
  obtain ⟨v0, v1, v2, v3, v4, v5, v6, v7, v8, v9, v10⟩ := cells11 hvb; have hvw := blk_lt hvb
  obtain ⟨z0, z1, z2, z3, z4, z5, z6⟩ := cells7 hzb; have zz := fun i => blk_frozen hzb i; have hzw := blk_lt hzb
  have hfw := blk_lt hfb
  clear hpb hvb hzb
  by_cases k0 : k = 0
  ·
   subst k0
   obtain ⟨E, hE⟩ : ∃ E : Int, E = (pairsE (pairsP p l [] 0)) := ⟨_, rfl⟩
   have hF := HF.out
   have hF2 : (if E ≠ 0 then E else firstNZ ((checksP p v l).drop (0 + 1))) = F := by rw [hE]; exact hF
   have HEE := Aside0.mk hE
   have HCK := Aside0.mk (fun W hb => by have h := HC1.out W hb; rw [← hE] at h; exact h)
   have f0 := blk_cell hfb 0
   simp only [List.getElem?_toArray, List.getElem?_cons_succ, List.getElem?_cons_zero] at f0
   clear hF HF hE hfb
   by_cases e0 : E = 0
   ·have de : (E != 0) = false := by simp [e0]
    rw [if_neg (by simp [e0])] at hF2
    have HF2 := Aside0.mk hF2
    clear hF2 e0
    go_wp2_with (go_at_call 95; refine (HCK.out _ HB0.out).mono ?_; rintro e w5 ⟨rfl, hb⟩; have HB5 := Aside0.mk hb; clear hb)
    go_roundw
    case rel => exact ⟨0 + 1, by omega, by go_num, HF2, ⟨below_to HW.out HB5.out⟩⟩
    case measure => simp [intOf]
   ·have de : (E != 0) = true := by simp [e0]
    rw [if_pos e0] at hF2
    subst hF2
    clear e0
    go_wp2_with (go_at_call 95; refine (HCK.out _ HB0.out).mono ?_; rintro e w5 ⟨rfl, hb⟩; have HB5 := Aside0.mk hb; have hz5 := blk_below HZB.out hb; clear z0 z1 z2 z3 z4 z5 z6 zz hzw; obtain ⟨z0, z1, z2, z3, z4, z5, z6⟩ := cells7 hz5; have zz := fun i => blk_frozen hz5 i; have hzw := blk_lt hz5; clear hb)
    rw [HRF.out de]
    exact ret_store (by rfl) (zPlan, E) w _ _ (w.heap.size + 1) none 0 (ok := fun k => w.heap.size + 1 < k) hz5 rfl rfl rfl (by omega) (fun k hk => hk) (Nat.le_refl _) (Kd.F_nil _ _ _) (below_to HB0.out HB5.out)
  by_cases k1 : k = 1
  ·
   subst k1
   obtain ⟨E, hE⟩ : ∃ E : Int, E = (breaksE v (breaksP l 0)) := ⟨_, rfl⟩
   have hF := HF.out
   have hF2 : (if E ≠ 0 then E else firstNZ ((checksP p v l).drop (1 + 1))) = F := by rw [hE]; exact hF
   have HEE := Aside0.mk hE
   have HCK := Aside0.mk (fun W hb => by have h := HC2.out W hb; rw [← hE] at h; exact h)
   have f0 := blk_cell hfb 1
   simp only [List.getElem?_toArray, List.getElem?_cons_succ, List.getElem?_cons_zero] at f0
   clear hF HF hE hfb
   by_cases e0 : E = 0
   ·have de : (E != 0) = false := by simp [e0]
    rw [if_neg (by simp [e0])] at hF2
    have HF2 := Aside0.mk hF2
    clear hF2 e0
    go_wp2_with (go_at_call 96; refine (HCK.out _ HB0.out).mono ?_; rintro e w5 ⟨rfl, hb⟩; have HB5 := Aside0.mk hb; clear hb)
    go_roundw
    case rel => exact ⟨1 + 1, by omega, by go_num, HF2, ⟨below_to HW.out HB5.out⟩⟩
    case measure => simp [intOf]
   ·have de : (E != 0) = true := by simp [e0]
    rw [if_pos e0] at hF2
    subst hF2
    clear e0
    go_wp2_with (go_at_call 96; refine (HCK.out _ HB0.out).mono ?_; rintro e w5 ⟨rfl, hb⟩; have HB5 := Aside0.mk hb; have hz5 := blk_below HZB.out hb; clear z0 z1 z2 z3 z4 z5 z6 zz hzw; obtain ⟨z0, z1, z2, z3, z4, z5, z6⟩ := cells7 hz5; have zz := fun i => blk_frozen hz5 i; have hzw := blk_lt hz5; clear hb)
    rw [HRF.out de]
    exact ret_store (by rfl) (zPlan, E) w _ _ (w.heap.size + 1) none 0 (ok := fun k => w.heap.size + 1 < k) hz5 rfl rfl rfl (by omega) (fun k hk => hk) (Nat.le_refl _) (Kd.F_nil _ _ _) (below_to HB0.out HB5.out)
  by_cases k2 : k = 2
  ·
   subst k2
   obtain ⟨E, hE⟩ : ∃ E : Int, E = ((if skillsB p v.Skills l = true then 0 else 163)) := ⟨_, rfl⟩
   have hF := HF.out
   have hF2 : (if E ≠ 0 then E else firstNZ ((checksP p v l).drop (2 + 1))) = F := by rw [hE]; exact hF
   have HEE := Aside0.mk hE
   have HCK := Aside0.mk (fun W hb => by have h := HC3.out W hb; rw [← hE] at h; exact h)
   have f0 := blk_cell hfb 2
   simp only [List.getElem?_toArray, List.getElem?_cons_succ, List.getElem?_cons_zero] at f0
   clear hF HF hE hfb
   by_cases e0 : E = 0
   ·have de : (E != 0) = false := by simp [e0]
    rw [if_neg (by simp [e0])] at hF2
    have HF2 := Aside0.mk hF2
    clear hF2 e0
    go_wp2_with (go_at_call 97; refine (HCK.out _ HB0.out).mono ?_; rintro e w5 ⟨rfl, hb⟩; have HB5 := Aside0.mk hb; clear hb)
    go_roundw
    case rel => exact ⟨2 + 1, by omega, by go_num, HF2, ⟨below_to HW.out HB5.out⟩⟩
    case measure => simp [intOf]
   ·have de : (E != 0) = true := by simp [e0]
    rw [if_pos e0] at hF2
    subst hF2
    clear e0
    go_wp2_with (go_at_call 97; refine (HCK.out _ HB0.out).mono ?_; rintro e w5 ⟨rfl, hb⟩; have HB5 := Aside0.mk hb; have hz5 := blk_below HZB.out hb; clear z0 z1 z2 z3 z4 z5 z6 zz hzw; obtain ⟨z0, z1, z2, z3, z4, z5, z6⟩ := cells7 hz5; have zz := fun i => blk_frozen hz5 i; have hzw := blk_lt hz5; clear hb)
    rw [HRF.out de]
    exact ret_store (by rfl) (zPlan, E) w _ _ (w.heap.size + 1) none 0 (ok := fun k => w.heap.size + 1 < k) hz5 rfl rfl rfl (by omega) (fun k hk => hk) (Nat.le_refl _) (Kd.F_nil _ _ _) (below_to HB0.out HB5.out)
  by_cases k3 : k = 3
  ·
   subst k3
   obtain ⟨E, hE⟩ : ∃ E : Int, E = ((if v.MaxTasks < tasksP l 0 then 164 else 0)) := ⟨_, rfl⟩
   have hF := HF.out
   have hF2 : (if E ≠ 0 then E else firstNZ ((checksP p v l).drop (3 + 1))) = F := by rw [hE]; exact hF
   have HEE := Aside0.mk hE
   have HCK := Aside0.mk (fun W hb => by have h := HC4.out W hb; rw [← hE] at h; exact h)
   have f0 := blk_cell hfb 3
   simp only [List.getElem?_toArray, List.getElem?_cons_succ, List.getElem?_cons_zero] at f0
   clear hF HF hE hfb
   by_cases e0 : E = 0
   ·have de : (E != 0) = false := by simp [e0]
    rw [if_neg (by simp [e0])] at hF2
    have HF2 := Aside0.mk hF2
    clear hF2 e0
    go_wp2_with (go_at_call 98; refine (HCK.out _ HB0.out).mono ?_; rintro e w5 ⟨rfl, hb⟩; have HB5 := Aside0.mk hb; clear hb)
    go_roundw
    case rel => exact ⟨3 + 1, by omega, by go_num, HF2, ⟨below_to HW.out HB5.out⟩⟩
    case measure => simp [intOf]
   ·have de : (E != 0) = true := by simp [e0]
    rw [if_pos e0] at hF2
    subst hF2
    clear e0
    go_wp2_with (go_at_call 98; refine (HCK.out _ HB0.out).mono ?_; rintro e w5 ⟨rfl, hb⟩; have HB5 := Aside0.mk hb; have hz5 := blk_below HZB.out hb; clear z0 z1 z2 z3 z4 z5 z6 zz hzw; obtain ⟨z0, z1, z2, z3, z4, z5, z6⟩ := cells7 hz5; have zz := fun i => blk_frozen hz5 i; have hzw := blk_lt hz5; clear hb)
    rw [HRF.out de]
    exact ret_store (by rfl) (zPlan, E) w _ _ (w.heap.size + 1) none 0 (ok := fun k => w.heap.size + 1 < k) hz5 rfl rfl rfl (by omega) (fun k hk => hk) (Nat.le_refl _) (Kd.F_nil _ _ _) (below_to HB0.out HB5.out)
  by_cases k4 : k = 4
  ·
   subst k4
   obtain ⟨E, hE⟩ : ∃ E : Int, E = (capE v (loadsP p l)) := ⟨_, rfl⟩
   have hF := HF.out
   have hF2 : (if E ≠ 0 then E else firstNZ ((checksP p v l).drop (4 + 1))) = F := by rw [hE]; exact hF
   have HEE := Aside0.mk hE
   have HCK := Aside0.mk (fun W hb => by have h := HC5.out W hb; rw [← hE] at h; exact h)
   have f0 := blk_cell hfb 4
   simp only [List.getElem?_toArray, List.getElem?_cons_succ, List.getElem?_cons_zero] at f0
   clear hF HF hE hfb
   by_cases e0 : E = 0
   ·have de : (E != 0) = false := by simp [e0]
    rw [if_neg (by simp [e0])] at hF2
    have HF2 := Aside0.mk hF2
    clear hF2 e0
    go_wp2_with (go_at_call 99; refine (HCK.out _ HB0.out).mono ?_; rintro e w5 ⟨rfl, hb⟩; have HB5 := Aside0.mk hb; clear hb)
    go_roundw
    case rel => exact ⟨4 + 1, by omega, by go_num, HF2, ⟨below_to HW.out HB5.out⟩⟩
    case measure => simp [intOf]
   ·have de : (E != 0) = true := by simp [e0]
    rw [if_pos e0] at hF2
    subst hF2
    clear e0
    go_wp2_with (go_at_call 99; refine (HCK.out _ HB0.out).mono ?_; rintro e w5 ⟨rfl, hb⟩; have HB5 := Aside0.mk hb; have hz5 := blk_below HZB.out hb; clear z0 z1 z2 z3 z4 z5 z6 zz hzw; obtain ⟨z0, z1, z2, z3, z4, z5, z6⟩ := cells7 hz5; have zz := fun i => blk_frozen hz5 i; have hzw := blk_lt hz5; clear hb)
    rw [HRF.out de]
    exact ret_store (by rfl) (zPlan, E) w _ _ (w.heap.size + 1) none 0 (ok := fun k => w.heap.size + 1 < k) hz5 rfl rfl rfl (by omega) (fun k hk => hk) (Nat.le_refl _) (Kd.F_nil _ _ _) (below_to HB0.out HB5.out)
  by_cases k5 : k = 5
  ·
   subst k5
   obtain ⟨E, hE⟩ : ∃ E : Int, E = (travelS p v.End v.Start l) := ⟨_, rfl⟩
   have hF := HF.out
   have hF2 : (if E ≠ 0 then E else firstNZ ((checksP p v l).drop (5 + 1))) = F := by rw [hE]; exact hF
   have HEE := Aside0.mk hE
   have HCK := Aside0.mk (fun W hb => by have h := HC6.out W hb; rw [← hE] at h; exact h)
   have f0 := blk_cell hfb 5
   simp only [List.getElem?_toArray, List.getElem?_cons_succ, List.getElem?_cons_zero] at f0
   clear hF HF hE hfb
   by_cases e0 : E = 0
   ·have de : (E != 0) = false := by simp [e0]
    rw [if_neg (by simp [e0])] at hF2
    have HF2 := Aside0.mk hF2
    clear hF2 e0
    go_wp2_with (go_at_call 100; refine (HCK.out _ HB0.out).mono ?_; rintro e w5 ⟨rfl, hb⟩; have HB5 := Aside0.mk hb; clear hb)
    go_roundw
    case rel => exact ⟨5 + 1, by omega, by go_num, HF2, ⟨below_to HW.out HB5.out⟩⟩
    case measure => simp [intOf]
   ·have de : (E != 0) = true := by simp [e0]
    rw [if_pos e0] at hF2
    subst hF2
    clear e0
    go_wp2_with (go_at_call 100; refine (HCK.out _ HB0.out).mono ?_; rintro e w5 ⟨rfl, hb⟩; have HB5 := Aside0.mk hb; have hz5 := blk_below HZB.out hb; clear z0 z1 z2 z3 z4 z5 z6 zz hzw; obtain ⟨z0, z1, z2, z3, z4, z5, z6⟩ := cells7 hz5; have zz := fun i => blk_frozen hz5 i; have hzw := blk_lt hz5; clear hb)
    rw [HRF.out de]
    exact ret_store (by rfl) (zPlan, E) w _ _ (w.heap.size + 1) none 0 (ok := fun k => w.heap.size + 1 < k) hz5 rfl rfl rfl (by omega) (fun k hk => hk) (Nat.le_refl _) (Kd.F_nil _ _ _) (below_to HB0.out HB5.out)
  obtain rfl : k = 6 := by omega
  have hF : 0 = F := HF.out
  subst hF
  have HT1 := Aside0.mk (HTM.out HFS.out)
  have hR := HRT.out rfl
  clear HC1 HC2 HC3 HC4 HC5 HC6 HRF HRT HTM HF
  subst hR
  go_wp2_with (go_at_call 101; refine (HT1.out _ HB0.out).mono ?_; rintro e w5 ⟨A5, k5, rfl, hle, hF, hb⟩; have HF5 := Aside0.mk hF; have HB5 := Aside0.mk hb; have hz5 := blk_below HZB.out hb; clear z0 z1 z2 z3 z4 z5 z6 zz hzw hF hb; obtain ⟨z0, z1, z2, z3, z4, z5, z6⟩ := cells7 hz5; have zz := fun i => blk_frozen hz5 i; have hzw := blk_lt hz5)
  exact ret_store (by rfl) (runS p v vehicle l (goS p v (loadsS p l) l 0 (beginTS v (loadsS p l)))) w _ _ (w.heap.size + 1) A5 k5 hz5 rfl rfl rfl (by omega) (fun k hk => Nat.lt_of_lt_of_le (blk_lt HZB.out) hk) hle HF5.out (below_to HB0.out HB5.out)
end Go.Proofs.Ytemjpgmfignhnaa

/- Contract: the plan of task visits, with breaks set in. The program's Fit.
Conditions: a lawful problem, at most 60 visits. -/
namespace Go.Proofs.Ytemjpgmfignhnaa
open Go.RowKit Go.Proofs.YtemjpgmfignhnaaW.PrintWords Go.Proofs.YtemjpgmfignhnaaW.PrintLast Go.Proofs.YtemjpgmfignhnaaW.PrintMore
set_option linter.unusedVariables false
set_option linter.unusedSimpArgs false
attribute [local go_sem] cell_growBy Option.some_or
/-- The whole numbers in the first n cells of a block. -/
def rowN (W : World) (g n : Nat) : List Int := (List.range n).map (fun j => match W.cell? ⟨g, j, none⟩ with
 | some (.int _ x) => x
 | _ => 0)
theorem rowN_is {W : World} {base : Nat} {ok : Nat → Prop} {g n c : Nat} {a : List Int} (h : (Kd.int .i64).R 3 W base ok (.slice (some ⟨g, 0, none⟩) n c) a) (hn : a.length = n) : rowN W g n = a := by
 subst hn
 refine List.ext_getElem (by simp [rowN]) fun j h1 h2 => ?_
 obtain ⟨x0, _⟩ := Kd.R_celln 0 h (j : Int) (by omega) (by omega)
 rw [show rdOf 0 a (j : Int) = rd a j from rfl, rd_nat a j h2] at x0
 simp only [Int.toNat_natCast] at x0
 simp [rowN, x0]
set_option maxHeartbeats 16000000 in
set_option maxRecDepth 100000 in
theorem planFit_any (q : PV) (p : TProblem) (vehicle : Int) (l : List TVisit) (A : Option Addr) (c : Nat) (w : World) (hlp : Good p) (law : Law p) (hq : q.Ok p w) (hr : Kd.C kVisit w A l.length l) (hl : l.length ≤ 60) :
  Calls Try.prog 53 #[q.val p, .int .i64 vehicle, .slice A l.length c] w (PlanPost (fitS p vehicle l) w) := by
 have hnv := law.nv
 have HR := Aside0.mk hr
 have HQ := Aside0.mk hq
 by_cases hv0 : vehicle < 0
 ·have e : fitS p vehicle l = (zPlan, 160) := by unfold fitS; rw [if_pos (.inl hv0)]
  rw [e]
  have d1 : decide (vehicle < 0) = true := decide_eq_true hv0
  clear e hr hq hlp law hv0
  unfold PV.val
  go_enter Try.func53, Try.ntmps53
  go_wp2
  exact bodyPost_ret (v := .tuple #[.agg #[.int .i64 0, .slice none 0 0, .int .i64 0, .int .i64 0, .int .i64 0, .int .i64 0, .int .i64 0], .int .i64 160]) (by simp [results, Try.results53, go_sem, *]) rfl ⟨none, 0, rfl, Nat.le_refl _, Kd.F_nil _ _ _, clb⟩
 by_cases hv1 : (p.Vehicles.length : Int) ≤ vehicle
 ·have e : fitS p vehicle l = (zPlan, 160) := by unfold fitS; rw [if_pos (.inr hv1)]
  rw [e]
  have d0 : decide (vehicle < 0) = false := decide_eq_false hv0
  have d1 : decide ((p.Vehicles.length : Int) ≤ vehicle) = true := decide_eq_true hv1
  clear e hr hq hlp law hv0 hv1
  unfold PV.val
  go_enter Try.func53, Try.ntmps53
  go_wp2
  exact bodyPost_ret (v := .tuple #[.agg #[.int .i64 0, .slice none 0 0, .int .i64 0, .int .i64 0, .int .i64 0, .int .i64 0, .int .i64 0], .int .i64 160]) (by simp [results, Try.results53, go_sem, *]) rfl ⟨none, 0, rfl, Nat.le_refl _, Kd.F_nil _ _ _, clb⟩
 have d0 : decide (vehicle < 0) = false := decide_eq_false hv0
 have d1 : decide ((p.Vehicles.length : Int) ≤ vehicle) = false := decide_eq_false hv1
 have HST := Aside0.mk (fun (hk : ¬ l.any (fun x => decide (x.Kind = 4)) = true) (hn : (rdVehicle p.Vehicles vehicle).Breaks.length ≤ 2) => fitS_start (p := p) (vehicle := vehicle) (l := l) (fun h => h.elim hv0 hv1) hk hn)
 have HBK := Aside0.mk (show l.any (fun x => decide (x.Kind = 4)) = true → fitS p vehicle l = (zPlan, 162) from fun h => by
  unfold fitS
  rw [if_neg (fun h => h.elim hv0 hv1), if_pos h])
 have hvm := rdVeh_mem p.Vehicles vehicle (by omega) (by omega)
 have hbrl := (law.veh _ hvm).brl
 have hi0 : 0 ≤ vehicle := by omega
 have hi1 : vehicle < (p.Vehicles.length : Int) := by omega
 obtain ⟨av, AC, cC, AB, cB, eav, v0, v1, v2, v3, v4, v5, v6, v7, v8, v9, v10, lC, gC, lB, gB⟩ := atVehicle hq.h3 vehicle (by omega) (by omega)
 generalize hn : (rdVehicle p.Vehicles vehicle).Breaks.length = n at *
 have HOF := Aside0.mk (fun (l' : List TVisit) (A' : Option Addr) (c' : Nat) W (hb : Below w.heap.size w W) (hC : Kd.C kVisit W A' l'.length l') (hl' : l'.length ≤ 200) => planOf_any q p vehicle l' A' c' W hlp law (hq.below hb) hC hl')
 obtain ⟨a1, c1, a2, c2, a3, c3, a4, c4, a5, c5⟩ := q
 have eav' : a3 = some av := eav
 subst eav'
 have V10 := Aside0.mk v10
 clear hr hq hlp law hvm eav lC gC lB gB hv0 hv1 v0 v1 v2 v3 v4 v5 v6 v7 v8 v9 v10
 unfold PV.val at HOF ⊢
 generalize fitS p vehicle l = R at *
 go_enter Try.func53, Try.ntmps53
 go_wp2
 go_loopw [26] (fun vi wr => ∃ k : Nat, k ≤ l.length ∧ vi = .int .i64 k ∧ Aside0 (∀ x ∈ l.take k, x.Kind ≠ 4) ∧ Aside0 (Below (w.heap.size + 1 + 1) ((w.alloc (.cells #[.int .i64 p.Dims, .int .i64 p.Time.N, .slice a1 p.Time.Cells.length c1, .int .i64 p.Dist.N, .slice a2 p.Dist.Cells.length c2, .slice (some av) p.Vehicles.length c3, .slice a4 p.Jobs.length c4, .slice a5 p.Shipments.length c5] 29)).alloc (.cells #[.int .i64 0, .slice none 0 0, .int .i64 0, .int .i64 0, .int .i64 0, .int .i64 0, .int .i64 0] 74)) wr)) (fun vi _ => l.length - (intOf vi).toNat)
 case atStart => exact ⟨0, Nat.zero_le _, rfl, ⟨by simp⟩, ⟨Below.refl _ _⟩⟩
 case round =>
  obtain ⟨k, hk, rfl, HK, HW⟩ := hrel
  have HW' : Aside0 (Below ((w.alloc (.cells #[.int .i64 p.Dims, .int .i64 p.Time.N, .slice a1 p.Time.Cells.length c1, .int .i64 p.Dist.N, .slice a2 p.Dist.Cells.length c2, .slice (some av) p.Vehicles.length c3, .slice a4 p.Jobs.length c4, .slice a5 p.Shipments.length c5] 29)).alloc (.cells #[.int .i64 0, .slice none 0 0, .int .i64 0, .int .i64 0, .int .i64 0, .int .i64 0, .int .i64 0] 74)).heap.size ((w.alloc (.cells #[.int .i64 p.Dims, .int .i64 p.Time.N, .slice a1 p.Time.Cells.length c1, .int .i64 p.Dist.N, .slice a2 p.Dist.Cells.length c2, .slice (some av) p.Vehicles.length c3, .slice a4 p.Jobs.length c4, .slice a5 p.Shipments.length c5] 29)).alloc (.cells #[.int .i64 0, .slice none 0 0, .int .i64 0, .int .i64 0, .int .i64 0, .int .i64 0, .int .i64 0] 74)) wr) := ⟨by simpa using HW.out⟩
  have HB0 : Aside0 (Below w.heap.size w wr) := ⟨below_to (below_alloc (below_alloc (Below.refl _ _) _) _) HW'.out⟩
  have HPB : Aside0 (wr.heap[w.heap.size]? = some (.cells #[.int .i64 p.Dims, .int .i64 p.Time.N, .slice a1 p.Time.Cells.length c1, .int .i64 p.Dist.N, .slice a2 p.Dist.Cells.length c2, .slice (some av) p.Vehicles.length c3, .slice a4 p.Jobs.length c4, .slice a5 p.Shipments.length c5] 29)) := ⟨blk_below (blk_alloc (blk_new _ _) _) HW'.out⟩
  have HZB : Aside0 (wr.heap[w.heap.size + 1]? = some (.cells #[.int .i64 0, .slice none 0 0, .int .i64 0, .int .i64 0, .int .i64 0, .int .i64 0, .int .i64 0] 74)) := ⟨blk_below (blk_is (by simp)) HW'.out⟩
  by_cases hlt : k < l.length
  ·
   obtain ⟨ad, ea, x0, x1⟩ := atNVisit (Kd.C_below HR.out HB0.out) k hlt
   subst ea
   have r0 : (0 : Int) ≤ (k : Int) := by omega
   have r1 : (k : Int) < (l.length : Int) := by omega
   by_cases k4 : l[k].Kind = 4
   ·have d4 : (l[k].Kind == 4) = true := by simp [k4]
    have hE := HBK.out (List.any_eq_true.2 ⟨_, List.getElem_mem hlt, by simp [k4]⟩)
    subst hE
    have hz := HZB.out
    clear HST HK k4 hz HBK
    go_wp2_with (refine wpList_store7P rfl rfl rfl rfl (blk_alloc HZB.out _) ?_)
    exact ret_store (by rfl) (zPlan, 162) w _ _ (w.heap.size + 1) none 0 (ok := fun k => w.heap.size + 1 < k) (blk_alloc HZB.out _) rfl rfl rfl (by omega) (fun k hk => hk) (Nat.le_refl _) (Kd.F_nil _ _ _) (below_alloc HB0.out _)
   ·have d4 : (l[k].Kind == 4) = false := by simp [k4]
    have hN : ∀ x ∈ l.take (k + 1), x.Kind ≠ 4 := by
     intro x hx
     rw [List.take_succ_eq_append_getElem hlt] at hx
     rcases List.mem_append.1 hx with hx | hx
     ·exact HK.out x hx
     ·rw [List.mem_singleton.1 hx]; exact k4
    have HN := Aside0.mk hN
    clear hN k4 HK
    go_wp2
    go_roundw
    case rel => exact ⟨k + 1, by omega, by go_num, HN, ⟨by simpa using below_to HW'.out (below_alloc (Below.refl _ _) _)⟩⟩
    case measure => simp [intOf]; omega
  ·obtain rfl : k = l.length := by omega
   obtain ⟨r0, hA0, hS0⟩ := HST.out (by
    intro h
    obtain ⟨x, hx, h4⟩ := List.any_eq_true.1 h
    have := HK.out
    rw [List.take_length] at this
    exact this x hx (by simpa using h4)) hbrl
   have HA0 := Aside0.mk hA0
   have HS0 := Aside0.mk hS0
   have hpb := HPB.out
   have hzb := HZB.out
   obtain ⟨p0, p1, p2, p3, p4, p5, p6, p7⟩ := cells8 hpb; have hpw := blk_lt hpb
   obtain ⟨z0, z1, z2, z3, z4, z5, z6⟩ := cells7 hzb; have zz := fun i => blk_frozen hzb i; have hzw := blk_lt hzb
   have v10 := pw_cell_below HB0.out V10.out
   have n0 : (0 : Int) ≤ (n : Int) := by omega
   clear HST HBK HK hpb hzb hA0 hS0
   go_wp2_with ((with_reducible refine gate_dst (N := 43) rfl ?_); refine Kd.R_make (Kd.int .i64) (w0 := wr) wr.heap.size 3 rfl (N := 43) rfl 22 (.tmp 42) (.tmp 42) rfl (n : Int) rfl rfl Try.underlying22 (.int .i64 0) 8 (by kernel_rfl) rfl (by decide) (by decide) 0 (ok := fun _ => True) (okp := fun _ => False) rfl (fun _ h => h.elim) trivial (by omega) (by simp; omega) (Below.refl _ _) (Nat.le_refl _) ?_; intro v1 w1 ho hb hg hat; simp only [Int.toNat_natCast] at ho; have HU0 := Aside0.mk ho; have HBU := Aside0.mk hb; have HAT := Aside0.mk hat; clear ho hb hg hat)
   obtain ⟨gN, cN, rfl⟩ : ∃ gN cN, v1 = .slice (some ⟨gN, 0, none⟩) n cN := by
    obtain ⟨_, inner, hown, _⟩ := HU0.out
    obtain ⟨b, hb, _⟩ := HAT.out
    rcases hown.2 with ⟨h0, _⟩ | ⟨g, cap, cur, hv, _⟩
    ·rw [h0] at hb
     cases hb
    ·exact ⟨g, cap, by simpa using hv⟩
   have HN0 : Aside0 ((Kd.int .i64).R 3 w1 wr.heap.size (fun k => k = gN) (.slice (some ⟨gN, 0, none⟩) n cN) (List.replicate n 0)) := ⟨Kd.R_of_own (Kd.own_of_R HU0.out) (fun k hk => by simpa [Value.ownBlock] using hk.symm)⟩
   have hgN : wr.heap.size ≤ gN := own_base (Kd.own_of_R HN0.out) gN (by simp [Value.ownBlock])
   clear HAT HU0 p0 p1 p2 p3 p4 p5 p6 p7 hpw z0 z1 z2 z3 z4 z5 z6 zz hzw v10 HW HW'
   obtain ⟨wb, rfl⟩ : ∃ wb : World, wb = wr := ⟨_, rfl⟩
   have HB0b := HB0
   have HPBb := HPB
   have HZBb := HZB
   clear HB0 HPB HZB
   go_loopw [] (fun wr => ∃ (a : List Int) (r : List (Nat × Nat)), Aside0 (AtSt l.length n a r) ∧ Aside0 (stillS p vehicle l n a r = R) ∧ Aside0 ((Kd.int .i64).R 3 wr wb.heap.size (fun k => k = gN) (.slice (some ⟨gN, 0, none⟩) n cN) a) ∧ Aside0 (Below wb.heap.size wb wr)) (fun wr => (restOf l.length (rowN wr gN n)).length)
   case atStart => exact ⟨List.replicate n 0, r0, HA0, HS0, HN0, HBU⟩
   case round =>
    clear HA0 HS0 HN0 HBU
    obtain ⟨a, r, HA, HS, HN, HBk⟩ := hrel
    have han := HA.out.len
    have hab := HA.out.bnd
    have HB0 : Aside0 (Below w.heap.size w wr) := ⟨below_to HB0b.out HBk.out⟩
    have HPB := Aside0.mk (blk_below HPBb.out HBk.out)
    have HZB := Aside0.mk (blk_below HZBb.out HBk.out)
    have hpb := HPB.out
    obtain ⟨p0, p1, p2, p3, p4, p5, p6, p7⟩ := cells8 hpb; have hpw := blk_lt hpb
    have hcr : Kd.C (Kd.int .i64) wr (some ⟨gN, 0, none⟩) a.length a := by
     obtain ⟨A', c', e, _, hC⟩ := Kd.R_reads HN.out
     simp only [Value.slice.injEq] at e
     rw [e.1]
     exact hC
    have hsl : (setP l a 0 0).length ≤ 200 := by
     have := setP_len l a 0 0
     omega
    have HSE := Aside0.mk (fun W (hb : Below wr.heap.size wr W) => by
     have h := planSet_any l a A (some ⟨gN, 0, none⟩) c cN W (Kd.C_below HR.out (below_to HB0.out hb)) (Kd.C_below hcr hb) (by omega) (by omega)
     rw [han] at h
     exact h)
    have HO1 := Aside0.mk (fun (A' : Option Addr) (c' : Nat) W (hb : Below w.heap.size w W) (hC : Kd.C kVisit W A' (setP l a 0 0).length (setP l a 0 0)) => HOF.out (setP l a 0 0) A' c' W hb hC hsl)
    have hnx := fun he => stillS_next (p := p) (vehicle := vehicle) (l := l) HA.out he
    have hst : (ofS p vehicle (setP l a 0 0)).2 ≠ 167 → ofS p vehicle (setP l a 0 0) = R := fun h => by
     have h2 := HS.out
     unfold stillS at h2
     rw [if_neg h] at h2
     exact h2
    have HLT := Aside0.mk (fun W (hR : (Kd.int .i64).R 3 W wb.heap.size (fun k => k = gN) (.slice (some ⟨gN, 0, none⟩) n cN) a) (hb : wb.heap.size ≤ W.heap.size) => by
     have h := planLater_any a gN cN (l.length : Int) wb.heap.size (fun k => k = gN) W (by rw [han]; exact hR) (by omega) (fun x hx => by have := hab x hx; omega) hgN hb
     rw [han] at h
     exact h)
    rw [HS.out, han] at hnx
    generalize ofS p vehicle (setP l a 0 0) = rr at *
    generalize setP l a 0 0 = ls at *
    have HNX := Aside0.mk hnx
    have HST := Aside0.mk hst
    have HAB := Aside0.mk hab
    have hzw : w.heap.size + 1 < wr.heap.size := blk_lt HZB.out
    clear hpb hcr hnx hst hab HS
    go_upto_region 11 with fail
    go_cut [12, 13] (fun s12 s13 wx => ∃ b A5 k5, s12 = .pointer (some ⟨b, 0, none⟩) ∧ s13 = .int .i64 rr.2 ∧ Aside0 (wx.heap[b]? = some (.cells #[.int .i64 rr.1.Vehicle, .slice A5 rr.1.Steps.length k5, .int .i64 rr.1.Time, .int .i64 rr.1.Dist, .int .i64 rr.1.Wait, .int .i64 rr.1.Service, .int .i64 rr.1.Cost] 74 (0, 0)) ∧ rr.1.Steps.length ≤ k5 ∧ Kd.F kStep wx (fun k => w.heap.size + 1 < k) A5 rr.1.Steps.length rr.1.Steps) ∧ Aside0 (Below wr.heap.size wr wx))
    case first =>
     as_aux_lemma =>
     clear HNX HST HLT HAB HA HN HBk hgN hsl
     refine wp_region_held_drew (S := fun W' => Below wr.heap.size wr W' ∧ ∀ a : Addr, a.block < wr.heap.size → W'.cell? a = wr.cell? a) (by kernel_rfl) (hl_start _) (fun hHeld => ?_)
     refine (show wpAnyH _ _ _ _ _ 12 (Array.replicate 12 false) _ _ from ?_)
     refine tk 0 (h := ?_)
     refine tk 1 (h := ?_)
     refine tk 2 (h := ?_)
     refine tk 3 (h := ?_)
     refine wpAnyH_ready (rs := [4, 9]) (by kernel_rfl) (by simp) ?_
     refine rcn (fun K hK => ?_) (rcn (fun K hK => ?_) AllReadyH.nil)
     ·go_simp
      refine (HSE.out _ (And.left (show Below wr.heap.size wr _ ∧ _ from by assumption))).mono ?_; rintro e w4 ⟨A4, k4, rfl, hle4, hC4, hb4⟩; obtain ⟨qcs, qfs⟩ := bcell hb4; have hs4 := hb4.size; (try simp at hs4); dsimp only
      clear hHeld
      refine hko hK _ _ _ (hl_of chn) (fun hHeld => ?_)
      clear hK K
      refine wpAnyH_ready (rs := [5, 9]) (by kernel_rfl) (by simp) ?_
      refine rcn (fun K hK => ?_) (rcn (fun K hK => ?_) AllReadyH.nil)
      ·go_simp
       refine (HO1.out A4 k4 _ (below_to HB0.out (And.left (show Below wr.heap.size wr _ ∧ _ from by assumption))) (Kd.C_below hC4 chn)).mono ?_; rintro e w5 ⟨A5, k5, rfl, hle5, hF5, hb5⟩; have hs5 := hb5.size; (try simp at hs5); dsimp only
       clear hHeld
       refine hko hK _ _ _ (hl_of chn) (fun hHeld => ?_)
       clear hK K
       refine tk 6 (h := ?_)
       refine tk 7 (h := ?_)
       refine tk 8 (h := ?_)
       refine wpAnyH_ready (rs := [9]) (by kernel_rfl) (by simp) ?_
       refine rcn (fun K hK => ?_) AllReadyH.nil
       go_simp
       skip
       clear hHeld
       refine hko hK _ _ _ (hl_of chn) (fun hHeld => ?_)
       clear hK K
       refine wpAnyH_ready (rs := [10]) (by kernel_rfl) (by simp) ?_
       refine rcn (fun K hK => ?_) AllReadyH.nil
       go_simp
       skip
       clear hHeld
       refine hko hK _ _ _ (hl_of chn) (fun hHeld => ?_)
       clear hK K
       refine tk 11 (h := ?_)
       refine wpAnyH_done (by kernel_rfl) ?_ _
       go_wp2_with fail
       go_meet
       exact ⟨_, A5, k5, rfl, rfl, ⟨blk_new _ _, hle5, Kd.F_mono (Kd.F_below hF5 (below_alloc (Below.refl _ _) _)) (fun k hk => by have hk' : w4.heap.size ≤ k := hk; omega)⟩, ⟨(And.left (show Below wr.heap.size wr _ ∧ _ from by assumption))⟩⟩
      ·go_simp
       skip
       clear hHeld
       refine hko hK _ _ _ (hl_of chn) (fun hHeld => ?_)
       clear hK K
       refine wpAnyH_ready (rs := [5]) (by kernel_rfl) (by simp) ?_
       refine rcn (fun K hK => ?_) AllReadyH.nil
       go_simp
       refine (HO1.out A4 k4 _ (below_to HB0.out (And.left (show Below wr.heap.size wr _ ∧ _ from by assumption))) (Kd.C_below hC4 chn)).mono ?_; rintro e w5 ⟨A5, k5, rfl, hle5, hF5, hb5⟩; have hs5 := hb5.size; (try simp at hs5); dsimp only
       clear hHeld
       refine hko hK _ _ _ (hl_of chn) (fun hHeld => ?_)
       clear hK K
       refine tk 6 (h := ?_)
       refine tk 7 (h := ?_)
       refine tk 8 (h := ?_)
       have hz5 := blk_below (blk_new _ (.cells #[.int .i64 0, .slice none 0 0, .int .i64 0, .int .i64 0, .int .i64 0, .int .i64 0, .int .i64 0] 74)) hb5
       clear hs5 qcs qfs
       refine wpAnyH_ready (rs := [10]) (by kernel_rfl) (by simp) ?_
       refine rcn (fun K hK => ?_) AllReadyH.nil
       refine wp_store7 rfl rfl rfl hz5 ?_
       clear hHeld
       refine hko hK _ _ _ (hl_of chn) (fun hHeld => ?_)
       clear hK K
       refine tk 11 (h := ?_)
       refine wpAnyH_done (by kernel_rfl) ?_ _
       go_wp2_with fail
       go_meet
       exact ⟨_, A5, k5, rfl, rfl, ⟨blk_set7 hz5 _ _ _ _ _ _ _, hle5, Kd.F_mono (F_set7 hF5 (fun k hk => by have hk' : (w4.alloc (.cells #[.int .i64 0, .slice none 0 0, .int .i64 0, .int .i64 0, .int .i64 0, .int .i64 0, .int .i64 0] 74)).heap.size ≤ k := hk; simp at hk'; omega) _ _ _ _ _ _ _) (fun k hk => by have hk' : (w4.alloc (.cells #[.int .i64 0, .slice none 0 0, .int .i64 0, .int .i64 0, .int .i64 0, .int .i64 0, .int .i64 0] 74)).heap.size ≤ k := hk; simp at hk'; omega)⟩, ⟨(And.left (show Below wr.heap.size wr _ ∧ _ from by assumption))⟩⟩
     ·go_simp
      skip
      clear hHeld
      refine hko hK _ _ _ (hl_of chn) (fun hHeld => ?_)
      clear hK K
      refine wpAnyH_ready (rs := [4]) (by kernel_rfl) (by simp) ?_
      refine rcn (fun K hK => ?_) AllReadyH.nil
      go_simp
      refine (HSE.out _ (And.left (show Below wr.heap.size wr _ ∧ _ from by assumption))).mono ?_; rintro e w4 ⟨A4, k4, rfl, hle4, hC4, hb4⟩; obtain ⟨qcs, qfs⟩ := bcell hb4; have hs4 := hb4.size; (try simp at hs4); dsimp only
      clear hHeld
      refine hko hK _ _ _ (hl_of chn) (fun hHeld => ?_)
      clear hK K
      have hz4 := blk_below (show (wr.alloc (.cells #[.int .i64 0, .slice none 0 0, .int .i64 0, .int .i64 0, .int .i64 0, .int .i64 0, .int .i64 0] 74)).drew.heap[wr.heap.size]? = some (.cells #[.int .i64 0, .slice none 0 0, .int .i64 0, .int .i64 0, .int .i64 0, .int .i64 0, .int .i64 0] 74) from blk_new _ _) hb4
      refine wpAnyH_ready (rs := [5]) (by kernel_rfl) (by simp) ?_
      refine rcn (fun K hK => ?_) AllReadyH.nil
      go_simp
      refine (HO1.out A4 k4 _ (below_to HB0.out (And.left (show Below wr.heap.size wr _ ∧ _ from by assumption))) (Kd.C_below hC4 chn)).mono ?_; rintro e w5 ⟨A5, k5, rfl, hle5, hF5, hb5⟩; have hs5 := hb5.size; (try simp at hs5); dsimp only
      clear hHeld
      refine hko hK _ _ _ (hl_of chn) (fun hHeld => ?_)
      clear hK K
      refine tk 6 (h := ?_)
      refine tk 7 (h := ?_)
      refine tk 8 (h := ?_)
      have hz5 := blk_below hz4 hb5
      clear hs5 qcs qfs
      refine wpAnyH_ready (rs := [10]) (by kernel_rfl) (by simp) ?_
      refine rcn (fun K hK => ?_) AllReadyH.nil
      refine wp_store7 rfl rfl rfl hz5 ?_
      clear hHeld
      refine hko hK _ _ _ (hl_of chn) (fun hHeld => ?_)
      clear hK K
      refine tk 11 (h := ?_)
      refine wpAnyH_done (by kernel_rfl) ?_ _
      go_wp2_with fail
      go_meet
      exact ⟨_, A5, k5, rfl, rfl, ⟨blk_set7 hz5 _ _ _ _ _ _ _, hle5, Kd.F_mono (F_set7 hF5 (fun k hk => by have hk' : w4.heap.size ≤ k := hk; omega) _ _ _ _ _ _ _) (fun k hk => by have hk' : w4.heap.size ≤ k := hk; omega)⟩, ⟨(And.left (show Below wr.heap.size wr _ ∧ _ from by assumption))⟩⟩
    case rest =>
     as_aux_lemma =>
     obtain ⟨b, A5, k5, rfl, rfl, HX, HBx⟩ := hcut
     have HBwc : Aside0 (Below w.heap.size w wc) := ⟨below_to HB0.out HBx.out⟩
     have HNc := Aside0.mk (show (Kd.int .i64).R 3 wc wb.heap.size (fun k => k = gN) (.slice (some ⟨gN, 0, none⟩) n cN) a from Kd.R_below HN.out HBx.out)
     have hbx := HX.out.1
     obtain ⟨b0, b1, b2, b3, b4, b5, b6⟩ := cells7 hbx; have hbw := blk_lt hbx
     have hz := blk_below HZB.out HBx.out
     have hsz : wb.heap.size ≤ wc.heap.size := Nat.le_trans HBk.out.size HBx.out.size
     have HLC := Aside0.mk (HLT.out wc HNc.out hsz)
     clear p0 p1 p2 p3 p4 p5 p6 p7 hpw HSE HO1 hbx HLT
     by_cases e7 : rr.2 = 167
     ·have d7 : (rr.2 != 167) = false := by simp [e7]
      rcases HNX.out e7 with ⟨hl1, hS⟩ | ⟨hl1, r', hA', hlt, hS⟩
      ·subst hS
       rw [hl1] at HLC
       clear e7 HNX HST
       go_wp2_with (first | (refine wpList_store7P rfl rfl rfl rfl hz ?_) | (go_at_call 103; refine HLC.out.mono ?_; rintro e w6 ⟨rfl, -, -, hw6⟩; obtain rfl := hw6 rfl))
       exact ret_store (by rfl) R w _ _ (w.heap.size + 1) A5 k5 hz rfl rfl rfl (by omega) (fun k hk => hk) HX.out.2.1 HX.out.2.2 HBwc.out
      ·have HS2 := Aside0.mk hS.symm
       have HA2 := Aside0.mk hA'
       have HLT2 := Aside0.mk hlt
       rw [hl1] at HLC
       clear e7 HNX HST hlt hA' hS b0 b1 b2 b3 b4 b5 b6 hbw
       go_wp2_with (go_at_call 103; refine HLC.out.mono ?_; rintro e w6 ⟨rfl, hR6, hb6, -⟩; have HR6 := Aside0.mk hR6; have HB6 := Aside0.mk hb6; clear hR6 hb6)
       go_roundw
       case rel => exact ⟨_, r', HA2, HS2, HR6, ⟨below_mid (below_to HBk.out HBx.out) HB6.out⟩⟩
       case measure =>
        rw [rowN_is HR6.out HA2.out.len, rowN_is HN.out han, ← HA2.out.rest, ← HA.out.rest]
        exact HLT2.out
     ·have d7 : (rr.2 != 167) = true := by simp [e7]
      have hR := HST.out e7
      subst hR
      clear e7 HNX HST
      go_wp2_with (refine wpList_store7P rfl rfl rfl rfl hz ?_)
      exact ret_store (by rfl) rr w _ _ (w.heap.size + 1) A5 k5 hz rfl rfl rfl (by omega) (fun k hk => hk) HX.out.2.1 HX.out.2.2 HBwc.out
end Go.Proofs.Ytemjpgmfignhnaa
