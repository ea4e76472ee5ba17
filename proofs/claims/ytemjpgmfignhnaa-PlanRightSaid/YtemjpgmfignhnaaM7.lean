/- Loads, the way, breaks and tasks: the program's ways and the document's are one, in plain words.
Conditions: the lists of the tasks have a number for each dimension. -/
import Derived.Test.YtemjpgmfignhnaaM6
import Derived.Test.YtemjpgmfignhnaaM0
namespace Go.Proofs.Ytemjpgmfignhnaa
open Go.RowKit Go.Proofs.YtemjpgmfignhnaaW.PrintWords Go.Proofs.YtemjpgmfignhnaaW.PrintLast Go.Proofs.YtemjpgmfignhnaaW.PrintMore
set_option linter.unusedVariables false
set_option linter.unusedSimpArgs false
/-! ### what is aboard: the program's way -/
def addS (a b : List Int) : List Int := List.zipWith (· + ·) a b
def subS (a b : List Int) : List Int := List.zipWith (· - ·) a b
def dropStep (p : TProblem) (now : List Int) (x : TVisit) : List Int := if (stopS p x).2 = true ∧ x.Kind = 1 then addS now (rdJob p.Jobs x.Item).Drop else now
def loadStep (p : TProblem) (now : List Int) (x : TVisit) : List Int :=
 if (stopS p x).2 = true then
  (if x.Kind = 1 then addS (subS now (rdJob p.Jobs x.Item).Drop) (rdJob p.Jobs x.Item).Pick else if x.Kind = 2 then addS now (rdShipment p.Shipments x.Item).Amount else subS now (rdShipment p.Shipments x.Item).Amount)
 else now
def loadsGo (p : TProblem) : List Int → List TVisit → List (List Int)
 | now, [] => [now]
 | now, x :: l => now :: loadsGo p (loadStep p now x) l
def loads0 (p : TProblem) (l : List TVisit) : List Int := l.foldl (dropStep p) (List.replicate p.Dims.toNat 0)
def loadsP (p : TProblem) (l : List TVisit) : List (List Int) := loadsGo p (loads0 p l) l
/-- The lists of a task that is there have a number for each dimension. -/
structure AmtLens (p : TProblem) : Prop where
 job : ∀ i, 0 ≤ i → i < (p.Jobs.length : Int) → (rdJob p.Jobs i).Drop.length = p.Dims.toNat ∧ (rdJob p.Jobs i).Pick.length = p.Dims.toNat
 ship : ∀ i, 0 ≤ i → i < (p.Shipments.length : Int) → (rdShipment p.Shipments i).Amount.length = p.Dims.toNat
theorem sumS_congr {f g : Nat → Int} : ∀ n, (∀ j, j < n → f j = g j) → sumS f n = sumS g n
 | 0, _ => rfl
 | n + 1, h => by rw [sumS, sumS, sumS_congr n (fun j hj => h j (by omega)), h n (by omega)]
theorem sumS_one {f g : Nat → Int} (k : Nat) : ∀ n, k < n → (∀ j, j < n → j ≠ k → f j = g j) → sumS f n = sumS g n + (f k - g k)
 | 0, h, _ => by omega
 | n + 1, h, he => by
  rw [sumS, sumS]
  by_cases e : k = n
  ·subst e
   rw [sumS_congr k (fun j hj => he j (by omega) (by omega))]
   omega
  ·rw [sumS_one k n (by omega) (fun j hj hk => he j (by omega) hk), he n (by omega) (by omega)]
   omega
theorem nowS_get (p : TProblem) (l : List TVisit) (k d : Nat) (h : d < p.Dims.toNat) : (nowS p l k)[d]'(by simpa [nowS, nowAt] using h) = sumS (fun j => contribS p l k j d) l.length := by simp [nowS, nowAt]
theorem nowS_length (p : TProblem) (l : List TVisit) (k : Nat) : (nowS p l k).length = p.Dims.toNat := nowAt_length ..
theorem rd_nat (l : List Int) (d : Nat) (h : d < l.length) : rd l (d : Int) = l[d] := by simp [rd, List.getElem?_eq_getElem h]
/-- The loads at the start. -/
theorem loads0_is {p : TProblem} (ha : AmtLens p) (l : List TVisit) : loads0 p l = nowS p l 0 := by
 have key : ∀ n, n ≤ l.length → ((l.take n).foldl (dropStep p) (List.replicate p.Dims.toNat 0)).length = p.Dims.toNat ∧
   ∀ d (hd : d < p.Dims.toNat) (h : d < ((l.take n).foldl (dropStep p) (List.replicate p.Dims.toNat 0)).length), ((l.take n).foldl (dropStep p) (List.replicate p.Dims.toNat 0))[d] = sumS (fun j => contribS p l 0 j d) n := by
  intro n
  induction n with
  | zero => intro _; simp [sumS]
  | succ n ih =>
   intro hn
   have hlt : n < l.length := by omega
   obtain ⟨i1, i2⟩ := ih (by omega)
   rw [List.take_succ_eq_append_getElem hlt, List.foldl_append]
   generalize (l.take n).foldl (dropStep p) (List.replicate p.Dims.toNat 0) = now at i1 i2
   show (dropStep p now l[n]).length = _ ∧ ∀ d (hd : d < p.Dims.toNat) (h : d < (dropStep p now l[n]).length), (dropStep p now l[n])[d] = _
   by_cases h : (stopS p l[n]).2 = true ∧ l[n].Kind = 1
   ·have e : dropStep p now l[n] = addS now (rdJob p.Jobs l[n].Item).Drop := if_pos h
    simp only [e]
    rcases kind_of h.1 with ⟨k1, i0, i1'⟩ | ⟨k2, _⟩
    ·have hj := (ha.job _ i0 i1').1
     refine ⟨by simp [addS, i1, hj], fun d hd h' => ?_⟩
     simp only [addS, List.getElem_zipWith]
     rw [i2 d hd (by omega), sumS]
     unfold contribS
     rw [rdVisit_nat l n hlt, if_pos h.1, if_pos h.2, if_pos (Nat.zero_le _), rd_nat _ _ (by omega)]
    ·omega
   ·have e : dropStep p now l[n] = now := if_neg h
    simp only [e]
    refine ⟨i1, fun d hd h' => ?_⟩
    rw [i2 d hd h', sumS]
    have : contribS p l 0 n d = 0 := by
     unfold contribS
     rw [rdVisit_nat l n hlt]
     split
     ·rename_i hs
      rw [if_neg (fun e => h ⟨hs, e⟩), if_neg (by omega)]
     ·rfl
    omega
 obtain ⟨k1, k2⟩ := key l.length (Nat.le_refl _)
 unfold loads0
 rw [List.take_length] at k1 k2
 refine List.ext_getElem (by rw [k1, nowS_length]) fun d h1 h2 => ?_
 rw [nowS_get p l 0 d (by omega), k2 d (by omega) h1]
theorem loadStep_is {p : TProblem} (ha : AmtLens p) (l : List TVisit) (k : Nat) (hk : k < l.length) : loadStep p (nowS p l k) l[k] = nowS p l (k + 1) := by
 have hsum : ∀ d, sumS (fun j => contribS p l (k + 1) j d) l.length = sumS (fun j => contribS p l k j d) l.length + (contribS p l (k + 1) k d - contribS p l k k d) := fun d => by
  refine sumS_one k _ hk (fun j hj hne => ?_)
  unfold contribS
  by_cases h1 : k + 1 ≤ j
  ·rw [if_pos h1, if_pos (show k ≤ j by omega), if_neg (show ¬ j < k + 1 by omega), if_neg (show ¬ j < k by omega)]
  ·rw [if_neg h1, if_neg (show ¬ k ≤ j by omega), if_pos (show j < k + 1 by omega), if_pos (show j < k by omega)]
 unfold loadStep
 by_cases hs : (stopS p l[k]).2 = true
 ·rw [if_pos hs]
  rcases kind_of hs with ⟨k1, i0, i1⟩ | ⟨k2, i0, i1⟩
  ·obtain ⟨j1, j2⟩ := ha.job _ i0 i1
   rw [if_pos k1]
   refine List.ext_getElem (by simp [addS, subS, nowS_length, j1, j2]) fun d h1 h2 => ?_
   have hd : d < p.Dims.toNat := by rwa [nowS_length] at h2
   simp only [addS, subS, List.getElem_zipWith]
   rw [nowS_get p l k d hd, nowS_get p l (k + 1) d hd, hsum d]
   generalize sumS (fun j => contribS p l k j d) l.length = S
   unfold contribS
   rw [rdVisit_nat l k hk, if_pos hs, if_pos hs, if_pos k1, if_pos k1, if_neg (by omega), if_pos (Nat.le_refl _), rd_nat _ _ (by omega), rd_nat _ _ (by omega)]
   omega
  ·have j1 := ha.ship _ i0 i1
   rw [if_neg (by omega)]
   by_cases h2 : l[k].Kind = 2
   ·rw [if_pos h2]
    refine List.ext_getElem (by simp [addS, nowS_length, j1]) fun d h1 h3 => ?_
    have hd : d < p.Dims.toNat := by rwa [nowS_length] at h3
    simp only [addS, List.getElem_zipWith]
    rw [nowS_get p l k d hd, nowS_get p l (k + 1) d hd, hsum d]
    generalize sumS (fun j => contribS p l k j d) l.length = S
    unfold contribS
    simp only [rdVisit_nat l k hk, hs, if_true, show ¬ l[k].Kind = 1 by omega, if_false, Nat.lt_succ_self, Nat.lt_irrefl, if_pos h2]
    rw [rd_nat _ _ (by omega)]
    omega
   ·rw [if_neg h2]
    refine List.ext_getElem (by simp [subS, nowS_length, j1]) fun d h1 h3 => ?_
    have hd : d < p.Dims.toNat := by rwa [nowS_length] at h3
    simp only [subS, List.getElem_zipWith]
    rw [nowS_get p l k d hd, nowS_get p l (k + 1) d hd, hsum d]
    generalize sumS (fun j => contribS p l k j d) l.length = S
    unfold contribS
    simp only [rdVisit_nat l k hk, hs, if_true, show ¬ l[k].Kind = 1 by omega, if_false, Nat.lt_succ_self, Nat.lt_irrefl, h2]
    rw [rd_nat _ _ (by omega)]
    omega
 ·rw [if_neg hs]
  refine List.ext_getElem (by simp [nowS_length]) fun d h1 h2 => ?_
  have hd : d < p.Dims.toNat := by rwa [nowS_length] at h2
  rw [nowS_get p l k d hd, nowS_get p l (k + 1) d hd, hsum d]
  generalize sumS (fun j => contribS p l k j d) l.length = S
  unfold contribS
  rw [rdVisit_nat l k hk, if_neg hs, if_neg hs]
  omega
theorem loadsP_same {p : TProblem} (ha : AmtLens p) (l : List TVisit) : loadsP p l = loadsS p l := by
 have key : ∀ n k, k + n = l.length → loadsGo p (nowS p l k) (l.drop k) = (List.range' k (n + 1)).map (nowS p l) := by
  intro n
  induction n with
  | zero =>
   intro k hk
   rw [List.drop_of_length_le (by omega)]
   rfl
  | succ n ih =>
   intro k hk
   have hlt : k < l.length := by omega
   rw [List.drop_eq_getElem_cons hlt, loadsGo, loadStep_is ha l k hlt, ih (k + 1) (by omega)]
   rw [List.range'_succ (n := n + 1), List.map_cons]
 unfold loadsP loadsS
 rw [loads0_is ha l, List.range_eq_range', ← key l.length 0 (by omega), List.drop_zero]
/-! ### the way -/
def placesS (p : TProblem) : Int → List TVisit → List Int
 | _, [] => []
 | a, x :: l => toS p a x :: placesS p (toS p a x) l
def travelL (p : TProblem) : List Int → Int
 | [] => 0
 | [_] => 0
 | a :: b :: r => if cellS p.Time a b < 0 ∨ cellS p.Dist a b < 0 then 166 else travelL p (b :: r)
theorem travel_same (p : TProblem) (e : Int) : ∀ (l : List TVisit) (a : Int), travelL p (a :: (placesS p a l ++ [e])) = travelS p e a l
 | [], a => by
  show travelL p [a, e] = travelS p e a []
  rw [travelL, travelS]
  rfl
 | x :: l, a => by
  rw [placesS, List.cons_append, travelL, travelS, travel_same p e l (toS p a x)]
theorem placesS_length (p : TProblem) : ∀ (l : List TVisit) (a : Int), (placesS p a l).length = l.length
 | [], _ => rfl
 | x :: l, a => by rw [placesS, List.length_cons, placesS_length p l, List.length_cons]
/-! ### breaks, skills, tasks -/
def breaksP : List TVisit → Int → Option Int
 | [], n => some n
 | x :: l, n => if x.Kind = 4 then (if x.Item = n then breaksP l (n + 1) else none) else breaksP l n
def tasksP : List TVisit → Int → Int
 | [], n => n
 | x :: l, n => if x.Kind = 1 ∨ x.Kind = 2 then tasksP l (n + 1) else tasksP l n
def wantS (p : TProblem) : List TVisit → Int → Int
 | [], s => s
 | x :: l, s => if x.Kind = 1 ∨ x.Kind = 2 then wantS p l (bits .or .u64 s (factsS p (taskOf x).1).2) else wantS p l s
theorem scan_same (p : TProblem) : ∀ (l : List TVisit) (n t s : Int), scanS p l n t s = (breaksP l n).map (fun m => (m, tasksP l t, wantS p l s))
 | [], n, t, s => rfl
 | x :: l, n, t, s => by
  rw [scanS, breaksP, tasksP, wantS]
  by_cases h4 : x.Kind = 4
  ·have h12 : ¬ (x.Kind = 1 ∨ x.Kind = 2) := by omega
   simp only [if_pos h4, if_neg h12]
   by_cases hi : x.Item = n
   ·simp only [if_pos hi]
    exact scan_same p l _ _ _
   ·simp only [if_neg hi]
    rfl
  ·simp only [if_neg h4]
   by_cases h12 : x.Kind = 1 ∨ x.Kind = 2
   ·simp only [if_pos h12]
    exact scan_same p l _ _ _
   ·simp only [if_neg h12]
    exact scan_same p l _ _ _
end Go.Proofs.Ytemjpgmfignhnaa
/- Contracts: the program's checks of a list of visits: breaks and tasks.
Conditions: at most 200 visits. -/
namespace Go.Proofs.Ytemjpgmfignhnaa
open Go.RowKit Go.Proofs.YtemjpgmfignhnaaW.PrintWords Go.Proofs.YtemjpgmfignhnaaW.PrintLast Go.Proofs.YtemjpgmfignhnaaW.PrintMore
set_option linter.unusedVariables false
set_option linter.unusedSimpArgs false
attribute [local go_sem] cell_growBy Option.some_or
theorem breaksP_at (l : List TVisit) (k : Nat) (h : k < l.length) (n : Int) : breaksP (l.drop k) n = if l[k].Kind = 4 then (if l[k].Item = n then breaksP (l.drop (k + 1)) (n + 1) else none) else breaksP (l.drop (k + 1)) n := by
 rw [List.drop_eq_getElem_cons h, breaksP]
theorem tasksP_at (l : List TVisit) (k : Nat) (h : k < l.length) (n : Int) : tasksP (l.drop k) n = if l[k].Kind = 1 ∨ l[k].Kind = 2 then tasksP (l.drop (k + 1)) (n + 1) else tasksP (l.drop (k + 1)) n := by
 rw [List.drop_eq_getElem_cons h, tasksP]
/-- What breaks tells. -/
def breaksE (v : TVehicle) : Option Int → Int
 | none => 162
 | some n => if n = v.Breaks.length then 0 else 162
set_option maxHeartbeats 16000000 in
set_option maxRecDepth 100000 in
theorem planBreaks_any (q : PV) (p : TProblem) (v : TVehicle) (AC AB : Option Addr) (cC cB : Nat) (l : List TVisit) (A : Option Addr) (c : Nat) (w : World) (hr : Kd.C kVisit w A l.length l) (hl : l.length ≤ 200) :
  Calls Try.prog 96 #[q.val p, vehVal v AC AB cC cB, .slice A l.length c] w fun e w' => e = .returned (.int .i64 (breaksE v (breaksP l 0))) ∧ Below w.heap.size w w' := by
 have HR := Aside0.mk hr
 clear hr
 generalize hres : breaksE v (breaksP l 0) = r
 have HFS : Aside0 (breaksE v (breaksP (l.drop 0) 0) = r) := ⟨hres⟩
 obtain ⟨a1, c1, a2, c2, a3, c3, a4, c4, a5, c5⟩ := q
 unfold PV.val vehVal
 clear hres
 go_enter Try.func96, Try.ntmps96
 go_wp2
 go_loopw [7, 12] (fun vn vi wr => ∃ (k : Nat) (n : Int), k ≤ l.length ∧ vi = .int .i64 k ∧ vn = .int .i64 n ∧ 0 ≤ n ∧ n ≤ k ∧ Aside0 (breaksE v (breaksP (l.drop k) n) = r) ∧ Aside0 (Below (w.heap.size + 1 + 1) ((w.alloc (.cells #[.int .i64 p.Dims, .int .i64 p.Time.N, .slice a1 p.Time.Cells.length c1, .int .i64 p.Dist.N, .slice a2 p.Dist.Cells.length c2, .slice a3 p.Vehicles.length c3, .slice a4 p.Jobs.length c4, .slice a5 p.Shipments.length c5] 29)).alloc (.cells #[.int .i64 v.Start, .int .i64 v.End, .slice AC v.Cap.length cC, .int .u64 v.Skills, .int .i64 v.Shift.From, .int .i64 v.Shift.To, .int .i64 v.Fixed, .int .i64 v.PerTime, .int .i64 v.PerDist, .int .i64 v.MaxTasks, .slice AB v.Breaks.length cB] 89)) wr)) (fun _ vi _ => l.length - (intOf vi).toNat)
 case atStart => exact ⟨0, 0, Nat.zero_le _, rfl, rfl, by omega, by omega, HFS, ⟨Below.refl _ _⟩⟩
 case round =>
  clear HFS
  obtain ⟨k, n, hk, rfl, rfl, hn0, hn1, HFS, HW⟩ := hrel
  have HW' : Aside0 (Below ((w.alloc (.cells #[.int .i64 p.Dims, .int .i64 p.Time.N, .slice a1 p.Time.Cells.length c1, .int .i64 p.Dist.N, .slice a2 p.Dist.Cells.length c2, .slice a3 p.Vehicles.length c3, .slice a4 p.Jobs.length c4, .slice a5 p.Shipments.length c5] 29)).alloc (.cells #[.int .i64 v.Start, .int .i64 v.End, .slice AC v.Cap.length cC, .int .u64 v.Skills, .int .i64 v.Shift.From, .int .i64 v.Shift.To, .int .i64 v.Fixed, .int .i64 v.PerTime, .int .i64 v.PerDist, .int .i64 v.MaxTasks, .slice AB v.Breaks.length cB] 89)).heap.size ((w.alloc (.cells #[.int .i64 p.Dims, .int .i64 p.Time.N, .slice a1 p.Time.Cells.length c1, .int .i64 p.Dist.N, .slice a2 p.Dist.Cells.length c2, .slice a3 p.Vehicles.length c3, .slice a4 p.Jobs.length c4, .slice a5 p.Shipments.length c5] 29)).alloc (.cells #[.int .i64 v.Start, .int .i64 v.End, .slice AC v.Cap.length cC, .int .u64 v.Skills, .int .i64 v.Shift.From, .int .i64 v.Shift.To, .int .i64 v.Fixed, .int .i64 v.PerTime, .int .i64 v.PerDist, .int .i64 v.MaxTasks, .slice AB v.Breaks.length cB] 89)) wr) := ⟨by simpa using HW.out⟩
  have HB0 : Aside0 (Below w.heap.size w wr) := ⟨below_to (below_alloc (below_alloc (Below.refl _ _) _) _) HW'.out⟩
  have hszr : w.heap.size + 1 < wr.heap.size := by
   have := HW'.out.size
   simp at this
   omega
  have hszr' : w.heap.size < wr.heap.size := by omega
  obtain ⟨qc, qf⟩ := bcell HW'.out
  by_cases hlt : k < l.length
  ·obtain ⟨ad, ea, x0, x1⟩ := atNVisit (Kd.C_below HR.out HB0.out) k hlt
   subst ea
   have r0 : (0 : Int) ≤ (k : Int) := by omega
   have r1 : (k : Int) < (l.length : Int) := by omega
   have hs := HFS.out
   rw [breaksP_at l k hlt] at hs
   generalize hx : l[k] = x at *
   clear HFS
   by_cases k4 : x.Kind = 4
   ·have d4 : (x.Kind == 4) = true := by simp [k4]
    rw [if_pos k4] at hs
    by_cases e1 : x.Item = n
    ·have d1 : (x.Item != n) = false := by simp [e1]
     rw [if_pos e1] at hs
     have HN := Aside0.mk hs
     clear hs k4 e1
     go_wp2
     go_roundw
     case rel => exact ⟨k + 1, n + 1, by omega, by go_num, by go_num, by omega, by omega, HN, ⟨by simpa using below_to HW'.out (show Below wr.heap.size wr _ from chn)⟩⟩
     case measure => simp [intOf]; omega
    ·have d1 : (x.Item != n) = true := by simp [e1]
     rw [if_neg e1] at hs
     obtain rfl : (162 : Int) = r := hs
     clear k4 e1
     go_wp2
     go_ret
     exact ⟨rfl, below_to HB0.out chn⟩
   ·have d4 : (x.Kind == 4) = false := by simp [k4]
    rw [if_neg k4] at hs
    have HN := Aside0.mk hs
    clear hs k4
    go_wp2
    go_roundw
    case rel => exact ⟨k + 1, n, by omega, by go_num, rfl, by omega, by omega, HN, ⟨by simpa using below_to HW'.out (show Below wr.heap.size wr _ from chn)⟩⟩
    case measure => simp [intOf]; omega
  ·obtain rfl : k = l.length := by omega
   have hs := HFS.out
   rw [List.drop_of_length_le (Nat.le_refl _), breaksP, breaksE] at hs
   clear HFS
   by_cases e1 : n = v.Breaks.length
   ·have d1 : (n != (v.Breaks.length : Int)) = false := by simp [e1]
    rw [if_pos e1] at hs
    subst hs
    clear e1
    go_wp2
    go_ret
    exact ⟨rfl, HB0.out⟩
   ·have d1 : (n != (v.Breaks.length : Int)) = true := by simp [e1]
    rw [if_neg e1] at hs
    subst hs
    clear e1
    go_wp2
    go_ret
    exact ⟨rfl, HB0.out⟩
set_option maxHeartbeats 16000000 in
set_option maxRecDepth 100000 in
theorem planTasks_any (q : PV) (p : TProblem) (v : TVehicle) (AC AB : Option Addr) (cC cB : Nat) (l : List TVisit) (A : Option Addr) (c : Nat) (w : World) (hr : Kd.C kVisit w A l.length l) (hl : l.length ≤ 200) :
  Calls Try.prog 98 #[q.val p, vehVal v AC AB cC cB, .slice A l.length c] w fun e w' => e = .returned (.int .i64 (if v.MaxTasks < tasksP l 0 then 164 else 0)) ∧ Below w.heap.size w w' := by
 have HR := Aside0.mk hr
 clear hr
 generalize hres : (if v.MaxTasks < tasksP l 0 then (164 : Int) else 0) = r
 have HFS : Aside0 ((if v.MaxTasks < tasksP (l.drop 0) 0 then (164 : Int) else 0) = r) := ⟨hres⟩
 obtain ⟨a1, c1, a2, c2, a3, c3, a4, c4, a5, c5⟩ := q
 unfold PV.val vehVal
 clear hres
 go_enter Try.func98, Try.ntmps98
 go_wp2
 go_loopw [7, 12] (fun vn vi wr => ∃ (k : Nat) (n : Int), k ≤ l.length ∧ vi = .int .i64 k ∧ vn = .int .i64 n ∧ 0 ≤ n ∧ n ≤ k ∧ Aside0 ((if v.MaxTasks < tasksP (l.drop k) n then (164 : Int) else 0) = r) ∧ Aside0 (Below (w.heap.size + 1 + 1) ((w.alloc (.cells #[.int .i64 p.Dims, .int .i64 p.Time.N, .slice a1 p.Time.Cells.length c1, .int .i64 p.Dist.N, .slice a2 p.Dist.Cells.length c2, .slice a3 p.Vehicles.length c3, .slice a4 p.Jobs.length c4, .slice a5 p.Shipments.length c5] 29)).alloc (.cells #[.int .i64 v.Start, .int .i64 v.End, .slice AC v.Cap.length cC, .int .u64 v.Skills, .int .i64 v.Shift.From, .int .i64 v.Shift.To, .int .i64 v.Fixed, .int .i64 v.PerTime, .int .i64 v.PerDist, .int .i64 v.MaxTasks, .slice AB v.Breaks.length cB] 89)) wr)) (fun _ vi _ => l.length - (intOf vi).toNat)
 case atStart => exact ⟨0, 0, Nat.zero_le _, rfl, rfl, by omega, by omega, HFS, ⟨Below.refl _ _⟩⟩
 case round =>
  clear HFS
  obtain ⟨k, n, hk, rfl, rfl, hn0, hn1, HFS, HW⟩ := hrel
  have HW' : Aside0 (Below ((w.alloc (.cells #[.int .i64 p.Dims, .int .i64 p.Time.N, .slice a1 p.Time.Cells.length c1, .int .i64 p.Dist.N, .slice a2 p.Dist.Cells.length c2, .slice a3 p.Vehicles.length c3, .slice a4 p.Jobs.length c4, .slice a5 p.Shipments.length c5] 29)).alloc (.cells #[.int .i64 v.Start, .int .i64 v.End, .slice AC v.Cap.length cC, .int .u64 v.Skills, .int .i64 v.Shift.From, .int .i64 v.Shift.To, .int .i64 v.Fixed, .int .i64 v.PerTime, .int .i64 v.PerDist, .int .i64 v.MaxTasks, .slice AB v.Breaks.length cB] 89)).heap.size ((w.alloc (.cells #[.int .i64 p.Dims, .int .i64 p.Time.N, .slice a1 p.Time.Cells.length c1, .int .i64 p.Dist.N, .slice a2 p.Dist.Cells.length c2, .slice a3 p.Vehicles.length c3, .slice a4 p.Jobs.length c4, .slice a5 p.Shipments.length c5] 29)).alloc (.cells #[.int .i64 v.Start, .int .i64 v.End, .slice AC v.Cap.length cC, .int .u64 v.Skills, .int .i64 v.Shift.From, .int .i64 v.Shift.To, .int .i64 v.Fixed, .int .i64 v.PerTime, .int .i64 v.PerDist, .int .i64 v.MaxTasks, .slice AB v.Breaks.length cB] 89)) wr) := ⟨by simpa using HW.out⟩
  have HB0 : Aside0 (Below w.heap.size w wr) := ⟨below_to (below_alloc (below_alloc (Below.refl _ _) _) _) HW'.out⟩
  have hszr : w.heap.size + 1 < wr.heap.size := by
   have := HW'.out.size
   simp at this
   omega
  have hszr' : w.heap.size < wr.heap.size := by omega
  obtain ⟨qc, qf⟩ := bcell HW'.out
  by_cases hlt : k < l.length
  ·obtain ⟨ad, ea, x0, x1⟩ := atNVisit (Kd.C_below HR.out HB0.out) k hlt
   subst ea
   have r0 : (0 : Int) ≤ (k : Int) := by omega
   have r1 : (k : Int) < (l.length : Int) := by omega
   have hs := HFS.out
   rw [tasksP_at l k hlt] at hs
   generalize hx : l[k] = x at *
   clear HFS
   by_cases k12 : x.Kind = 1 ∨ x.Kind = 2
   ·rw [if_pos k12] at hs
    have HN := Aside0.mk hs
    have d12 : (x.Kind == 1) = true ∨ ((x.Kind == 1) = false ∧ (x.Kind == 2) = true) := by
     rcases k12 with h | h
     ·exact .inl (by simp [h])
     ·exact .inr ⟨by simp [h], by simp [h]⟩
    clear hs k12
    rcases d12 with d12 | ⟨d12, d13⟩
    all_goals
     go_wp2
     go_roundw
     case rel => exact ⟨k + 1, n + 1, by omega, by go_num, by go_num, by omega, by omega, HN, ⟨by simpa using below_to HW'.out (show Below wr.heap.size wr _ from chn)⟩⟩
     case measure => simp [intOf]; omega
   ·rw [if_neg k12] at hs
    have HN := Aside0.mk hs
    have d1 : (x.Kind == 1) = false := by simp; omega
    have d2 : (x.Kind == 2) = false := by simp; omega
    clear hs k12
    go_wp2
    go_roundw
    case rel => exact ⟨k + 1, n, by omega, by go_num, rfl, by omega, by omega, HN, ⟨by simpa using below_to HW'.out (show Below wr.heap.size wr _ from chn)⟩⟩
    case measure => simp [intOf]; omega
  ·obtain rfl : k = l.length := by omega
   have hs := HFS.out
   rw [List.drop_of_length_le (Nat.le_refl _), tasksP] at hs
   clear HFS
   by_cases e1 : v.MaxTasks < n
   ·have d1 : decide (v.MaxTasks < n) = true := decide_eq_true e1
    rw [if_pos e1] at hs
    subst hs
    clear e1
    go_wp2
    go_ret
    exact ⟨rfl, HB0.out⟩
   ·have d1 : decide (v.MaxTasks < n) = false := decide_eq_false e1
    rw [if_neg e1] at hs
    subst hs
    clear e1
    go_wp2
    go_ret
    exact ⟨rfl, HB0.out⟩
end Go.Proofs.Ytemjpgmfignhnaa

/- How late each step of a plan may be come to, in plain words: the windows' two sides, the program's way and the document's.
Conditions: none. -/
namespace Go.Proofs.Ytemjpgmfignhnaa
open Go.RowKit Go.Proofs.YtemjpgmfignhnaaW.PrintWords Go.Proofs.YtemjpgmfignhnaaW.PrintLast Go.Proofs.YtemjpgmfignhnaaW.PrintMore
set_option linter.unusedVariables false
set_option linter.unusedSimpArgs false
/-! ### windows: the first start, and the last -/
def InW (l : List TWindow) (x : Int) : Prop := ∃ w ∈ l, w.From ≤ x ∧ x ≤ w.To
theorem InW.cons_iff {w : TWindow} {l : List TWindow} {x : Int} : InW (w :: l) x ↔ (w.From ≤ x ∧ x ≤ w.To) ∨ InW l x := by
 constructor
 ·rintro ⟨u, hu, h⟩
  rcases List.mem_cons.1 hu with rfl | hu
  ·exact .inl h
  ·exact .inr ⟨u, hu, h⟩
 ·rintro (h | ⟨u, hu, h⟩)
  ·exact ⟨w, List.mem_cons_self, h⟩
  ·exact ⟨u, List.mem_cons_of_mem _ hu, h⟩
structure WinAsc (l : List TWindow) : Prop where
 pos : ∀ w ∈ l, w.From ≤ w.To
 asc : l.Pairwise (fun a b => a.To < b.From)
theorem WinOk.sorted {l : List TWindow} (h : WinOk l) : WinAsc l := by
 refine ⟨fun w hw => ?_, ?_⟩
 ·obtain ⟨i, hi, rfl⟩ := List.mem_iff_getElem.1 hw
  exact (h.pos i hi).2.1
 ·rw [List.pairwise_iff_getElem]
  intro i j hi hj hij
  exact h.asc i j hij hj
theorem startS_iff (t L : Int) : ∀ (l : List TWindow), WinAsc l → (((startS t l).2 = true ∧ (startS t l).1 ≤ L) ↔ ∃ x, InW l x ∧ t ≤ x ∧ x ≤ L)
 | [], _ => by
  constructor
  ·rintro ⟨h, _⟩; cases h
  ·rintro ⟨x, ⟨w, hw, _⟩, _⟩; cases hw
 | w :: l, hs => by
  have h0 := hs.pos w List.mem_cons_self
  obtain ⟨h1, h2⟩ := List.pairwise_cons.1 hs.asc
  have hl : WinAsc l := ⟨fun u hu => hs.pos u (List.mem_cons_of_mem _ hu), h2⟩
  unfold startS
  split
  ·rename_i ht
   constructor
   ·rintro ⟨_, h⟩
    refine ⟨if t < w.From then w.From else t, InW.cons_iff.2 (.inl ?_), ?_, h⟩ <;> split <;> omega
   ·rintro ⟨x, hx, a, b⟩
    refine ⟨rfl, ?_⟩
    rcases InW.cons_iff.1 hx with ⟨c, d⟩ | ⟨u, hu, c, d⟩
    ·simp only; split <;> omega
    ·have := h1 u hu
     simp only; split <;> omega
  ·rename_i ht
   rw [startS_iff t L l hl]
   constructor
   ·rintro ⟨x, hx, h⟩
    exact ⟨x, InW.cons_iff.2 (.inr hx), h⟩
   ·rintro ⟨x, hx, h⟩
    rcases InW.cons_iff.1 hx with ⟨c, d⟩ | hx
    ·omega
    ·exact ⟨x, hx, h⟩
theorem lastTo_iff (t L : Int) (l : List TWindow) (hs : WinAsc l) : ∀ k, k ≤ l.length → (((lastTo L l k).2 = true ∧ t ≤ (lastTo L l k).1) ↔ ∃ x, InW (l.take k) x ∧ t ≤ x ∧ x ≤ L)
 | 0, _ => by
  constructor
  ·rintro ⟨h, _⟩; cases h
  ·rintro ⟨x, ⟨w, hw, _⟩, _⟩; simp at hw
 | k + 1, hk => by
  have hlt : k < l.length := by omega
  have e : rdWindow l (k : Int) = l[k] := by simp [rdWindow, List.getElem?_eq_getElem hlt]
  have hin : ∀ x, InW (l.take (k + 1)) x ↔ InW (l.take k) x ∨ (l[k].From ≤ x ∧ x ≤ l[k].To) := by
   intro x
   rw [List.take_succ_eq_append_getElem hlt]
   constructor
   ·rintro ⟨u, hu, h⟩
    rcases List.mem_append.1 hu with hu | hu
    ·exact .inl ⟨u, hu, h⟩
    ·obtain rfl := List.mem_singleton.1 hu
     exact .inr h
   ·rintro (⟨u, hu, h⟩ | h)
    ·exact ⟨u, List.mem_append_left _ hu, h⟩
    ·exact ⟨_, List.mem_append_right _ (List.mem_singleton.2 rfl), h⟩
  have hlow : ∀ x, InW (l.take k) x → x < l[k].From := by
   rintro x ⟨u, hu, h⟩
   obtain ⟨i, hi, rfl⟩ := List.mem_iff_getElem.1 hu
   have hik : i < k := by simp at hi; omega
   have := (List.pairwise_iff_getElem.1 hs.asc) i k (by omega) hlt hik
   simp only [List.getElem_take] at h
   omega
  have h0 := hs.pos _ (List.getElem_mem hlt)
  unfold lastTo
  rw [e]
  split
  ·rename_i ht
   constructor
   ·rintro ⟨_, h⟩
    refine ⟨if l[k].To < L then l[k].To else L, (hin _).2 (.inr ?_), h, ?_⟩ <;> split <;> omega
   ·rintro ⟨x, hx, a, b⟩
    refine ⟨rfl, ?_⟩
    rcases (hin x).1 hx with hx | ⟨c, d⟩
    ·have := hlow x hx
     simp only; split <;> omega
    ·simp only; split <;> omega
  ·rename_i ht
   rw [lastTo_iff t L l hs k (by omega)]
   constructor
   ·rintro ⟨x, hx, h⟩
    exact ⟨x, (hin x).2 (.inl hx), h⟩
   ·rintro ⟨x, hx, h⟩
    rcases (hin x).1 hx with hx | ⟨c, d⟩
    ·exact ⟨x, hx, h⟩
    ·omega
theorem start_last {l : List TWindow} (hs : WinOk l) (t L : Int) : ((startS t l).2 = true ∧ (startS t l).1 ≤ L) ↔ ((lastS L l).2 = true ∧ t ≤ (lastS L l).1) := by
 rw [startS_iff t L l hs.sorted]
 unfold lastS
 rw [lastTo_iff t L l hs.sorted l.length (Nat.le_refl _), List.take_length]
theorem lastS_le {l : List TWindow} (hs : WinOk l) {L : Int} (h : (lastS L l).2 = true) : (lastS L l).1 ≤ L ∧ (lastS L l).1 ≤ 1000000 ∧ 0 ≤ (lastS L l).1 := by
 have key : ∀ k, k ≤ l.length → (lastTo L l k).2 = true → (lastTo L l k).1 ≤ L ∧ (lastTo L l k).1 ≤ 1000000 ∧ 0 ≤ (lastTo L l k).1 := by
  intro k
  induction k with
  | zero => intro _ h; cases h
  | succ k ih =>
   intro hk h
   have hlt : k < l.length := by omega
   have e : rdWindow l (k : Int) = l[k] := by simp [rdWindow, List.getElem?_eq_getElem hlt]
   have hp := hs.pos k hlt
   unfold lastTo at h ⊢
   rw [e] at h ⊢
   split
   ·simp only; split <;> omega
   ·rename_i hn
    rw [if_neg hn] at h
    exact ih (by omega) h
 exact key _ (Nat.le_refl _) h
theorem startS_mono {l : List TWindow} (hs : WinOk l) {t u : Int} (htu : t ≤ u) (h : (startS u l).2 = true) : (startS t l).2 = true ∧ (startS t l).1 ≤ (startS u l).1 := by
 obtain ⟨x, a, b, c⟩ := (startS_iff u (startS u l).1 l hs.sorted).1 ⟨h, Int.le_refl _⟩
 exact (startS_iff t (startS u l).1 l hs.sorted).2 ⟨x, a, by omega, c⟩
/-! ### steps of a plan -/
/-- Where a step's visit is: breaks as the vehicle's. -/
def stopE (p : TProblem) (v : TVehicle) (x : TVisit) : TStop × Bool := if x.Kind = 4 then (⟨0, (rdBreak v.Breaks x.Item).Service, (rdBreak v.Breaks x.Item).Windows⟩, true) else stopS p x
structure StopW (s : TStop) : Prop where
 win : WinOk s.Windows
 ser : 0 ≤ s.Service ∧ s.Service ≤ 1000000
/-- Steps that are come to at their Arrivals, one left the place at_ at t, and all is in time. -/
def Chain (p : TProblem) (v : TVehicle) : Int → Int → List TStep → Prop
 | _, _, [] => False
 | t, at_, a :: r => a.Arrival = t + cellS p.Time at_ a.Place ∧ (match r with
  | [] => a.Arrival ≤ v.Shift.To
  | _ :: _ => (stopE p v a.Visit).2 = true ∧ (a.Visit.Kind = 4 → 0 ≤ a.Visit.Item ∧ a.Visit.Item < v.Breaks.length) ∧ StopW (stopE p v a.Visit).1 ∧ (startS a.Arrival (stopE p v a.Visit).1.Windows).2 = true ∧
    Chain p v ((startS a.Arrival (stopE p v a.Visit).1.Windows).1 + (stopE p v a.Visit).1.Service) a.Place r)
def lateS (p : TProblem) (v : TVehicle) : List TStep → List Int
 | [] => []
 | [_] => [v.Shift.To]
 | a :: b :: r => (lastS ((lateS p v (b :: r)).headD 0 - cellS p.Time a.Place b.Place - (stopE p v a.Visit).1.Service) (stopE p v a.Visit).1.Windows).1 :: lateS p v (b :: r)
/-- The latest times of a plan's steps. -/
def latestS (p : TProblem) (v : TVehicle) : List TStep → List Int
 | [] => []
 | [_] => []
 | a :: b :: r => ((lateS p v (b :: r)).headD 0 - cellS p.Time a.Place b.Place) :: lateS p v (b :: r)
/-- As early as may be, from a step on that is come to at t. -/
def goR (p : TProblem) (v : TVehicle) : List TStep → Int → Option Int
 | [], t => some t
 | [_], t => some t
 | a :: b :: r, t => if (stopE p v a.Visit).2 = true then
   (if (startS t (stopE p v a.Visit).1.Windows).2 = true then goR p v (b :: r) ((startS t (stopE p v a.Visit).1.Windows).1 + (stopE p v a.Visit).1.Service + cellS p.Time a.Place b.Place) else none)
  else goR p v (b :: r) (t + cellS p.Time a.Place b.Place)
def endsS (p : TProblem) (v : TVehicle) (steps : List TStep) (t : Int) : Int × Bool := match goR p v steps t with
 | none => (0, false)
 | some e => (e, decide (e ≤ v.Shift.To))
def goQ (p : TProblem) (v : TVehicle) : List TStep → Int → Int
 | [], t => t
 | [_], t => t
 | a :: b :: r, t => goQ p v (b :: r) ((startS t (stopE p v a.Visit).1.Windows).1 + (stopE p v a.Visit).1.Service + cellS p.Time a.Place b.Place)
theorem lateS_length (p : TProblem) (v : TVehicle) : ∀ l : List TStep, (lateS p v l).length = l.length
 | [] => rfl
 | [_] => rfl
 | a :: b :: r => by
  rw [lateS, List.length_cons, lateS_length p v (b :: r)]
  rfl
theorem latestS_length (p : TProblem) (v : TVehicle) (a b : TStep) (r : List TStep) : (latestS p v (a :: b :: r)).length = r.length + 2 := by
 rw [latestS, List.length_cons, lateS_length]
 rfl
theorem Chain.late {p : TProblem} {v : TVehicle} : ∀ (r : List TStep) (a : TStep) (t0 at_ : Int), Chain p v t0 at_ (a :: r) →
  a.Arrival ≤ (lateS p v (a :: r)).headD 0 ∧ (∀ t, (∃ e, goR p v (a :: r) t = some e ∧ e ≤ v.Shift.To) ↔ t ≤ (lateS p v (a :: r)).headD 0) ∧ (r ≠ [] → (lateS p v (a :: r)).headD 0 ≤ 1000000 ∧ 0 ≤ (lateS p v (a :: r)).headD 0)
 | [], a, t0, at_, h => by
  refine ⟨h.2, fun t => ?_, fun h => absurd rfl h⟩
  show (∃ e, some t = some e ∧ e ≤ v.Shift.To) ↔ t ≤ v.Shift.To
  constructor
  ·rintro ⟨e, he, h⟩
   cases he
   exact h
  ·exact fun h => ⟨t, rfl, h⟩
 | b :: r, a, t0, at_, h => by
  obtain ⟨h1, h2, h2', h3, h4, h5⟩ := h
  obtain ⟨i1, i2, -⟩ := Chain.late r b _ _ h5
  have hb : b.Arrival = (startS a.Arrival (stopE p v a.Visit).1.Windows).1 + (stopE p v a.Visit).1.Service + cellS p.Time a.Place b.Place := h5.1
  have hg := (start_last h3.win a.Arrival ((lateS p v (b :: r)).headD 0 - cellS p.Time a.Place b.Place - (stopE p v a.Visit).1.Service)).1 ⟨h4, by omega⟩
  have el : (lateS p v (a :: b :: r)).headD 0 = (lastS ((lateS p v (b :: r)).headD 0 - cellS p.Time a.Place b.Place - (stopE p v a.Visit).1.Service) (stopE p v a.Visit).1.Windows).1 := rfl
  rw [el]
  refine ⟨hg.2, fun t => ?_, fun _ => (lastS_le h3.win hg.1).2⟩
  have hgt := start_last h3.win t ((lateS p v (b :: r)).headD 0 - cellS p.Time a.Place b.Place - (stopE p v a.Visit).1.Service)
  rw [goR, if_pos h2]
  constructor
  ·rintro ⟨e, he, hle⟩
   split at he
   ·rename_i hs
    have := (i2 _).1 ⟨e, he, hle⟩
    exact (hgt.1 ⟨hs, by omega⟩).2
   ·cases he
  ·intro ht
   have hs := hgt.2 ⟨hg.1, ht⟩
   rw [if_pos hs.1]
   exact (i2 _).2 (by omega)
/-- All in time: the program's way and the document's are one. -/
theorem Chain.same {p : TProblem} {v : TVehicle} : ∀ (r : List TStep) (a : TStep) (t0 at_ : Int), Chain p v t0 at_ (a :: r) → ∀ t, t ≤ (lateS p v (a :: r)).headD 0 → goR p v (a :: r) t = some (goQ p v (a :: r) t) ∧ goQ p v (a :: r) t ≤ v.Shift.To
 | [], a, t0, at_, h, t, ht => ⟨rfl, ht⟩
 | b :: r, a, t0, at_, h, t, ht => by
  obtain ⟨e, he, hle⟩ := ((h.late (b :: r) a t0 at_).2.1 t).2 ht
  obtain ⟨h1, h2, h2', h3, h4, h5⟩ := h
  have he' := he
  rw [goR, if_pos h2] at he'
  split at he'
  ·rename_i hs
   have hlb := ((Chain.late r b _ _ h5).2.1 _).1 ⟨e, he', hle⟩
   have hi := Chain.same r b _ _ h5 _ hlb
   rw [goR, if_pos h2, if_pos hs]
   exact hi
  ·cases he'
theorem goQ_arrival {p : TProblem} {v : TVehicle} : ∀ (r : List TStep) (a : TStep) (t0 at_ : Int), Chain p v t0 at_ (a :: r) → goQ p v (a :: r) a.Arrival = ((a :: r).getLast (by simp)).Arrival
 | [], a, t0, at_, h => rfl
 | b :: r, a, t0, at_, h => by
  obtain ⟨h1, h2, h2', h3, h4, h5⟩ := h
  rw [goQ, ← show b.Arrival = _ from h5.1, goQ_arrival r b _ _ h5]
  rfl
theorem goQ_mono {p : TProblem} {v : TVehicle} : ∀ (r : List TStep) (a : TStep) (t0 at_ : Int), Chain p v t0 at_ (a :: r) → ∀ t u, t ≤ u → u ≤ (lateS p v (a :: r)).headD 0 → goQ p v (a :: r) t ≤ goQ p v (a :: r) u
 | [], a, t0, at_, h, t, u, htu, hu => htu
 | b :: r, a, t0, at_, h, t, u, htu, hu => by
  obtain ⟨e, he, hle⟩ := ((h.late (b :: r) a t0 at_).2.1 u).2 hu
  obtain ⟨h1, h2, h2', h3, h4, h5⟩ := h
  rw [goR, if_pos h2] at he
  split at he
  ·rename_i hs
   have hlb := ((Chain.late r b _ _ h5).2.1 _).1 ⟨e, he, hle⟩
   have hm := startS_mono h3.win htu hs
   rw [goQ, goQ]
   exact goQ_mono r b _ _ h5 _ _ (by omega) hlb
  ·cases he
theorem Chain.tail {p : TProblem} {v : TVehicle} {a b : TStep} {r : List TStep} {t0 at_ : Int} (h : Chain p v t0 at_ (a :: b :: r)) : ∃ t1 at1, Chain p v t1 at1 (b :: r) := ⟨_, _, h.2.2.2.2.2⟩
theorem Chain.drop {p : TProblem} {v : TVehicle} : ∀ (k : Nat) (l : List TStep) (t0 at_ : Int), Chain p v t0 at_ l → k < l.length → ∃ t1 at1, Chain p v t1 at1 (l.drop k)
 | 0, l, t0, at_, h, _ => ⟨t0, at_, h⟩
 | k + 1, [], _, _, h, _ => h.elim
 | k + 1, [a], _, _, h, hk => by simp at hk
 | k + 1, a :: b :: r, _, _, h, hk => by
  obtain ⟨t1, at1, h1⟩ := h.tail
  exact Chain.drop k (b :: r) t1 at1 h1 (by simpa using hk)
theorem lateS_drop (p : TProblem) (v : TVehicle) : ∀ (k : Nat) (l : List TStep), lateS p v (l.drop k) = (lateS p v l).drop k
 | 0, l => rfl
 | k + 1, [] => rfl
 | k + 1, [a] => by simp [lateS]
 | k + 1, a :: b :: r => by
  rw [lateS]
  exact lateS_drop p v k (b :: r)
theorem lateS_last (p : TProblem) (v : TVehicle) : ∀ (l : List TStep) (d : Int), l ≠ [] → (lateS p v l).getLastD d = v.Shift.To
 | [], _, h => absurd rfl h
 | [a], _, _ => rfl
 | a :: b :: r, d, _ => by
  rw [lateS, List.getLastD_cons]
  exact lateS_last p v (b :: r) _ (by simp)
/-! ### a plan that was made -/
/-- What is asked of the visits of a plan. -/
structure VisOk (p : TProblem) (v : TVehicle) (x : TVisit) : Prop where
 brk : (stopS p x).2 = false → x.Kind = 4
 num : x.Kind = 4 → 0 ≤ x.Item ∧ x.Item < v.Breaks.length
 win : ∀ at_, StopW (stopAt p v at_ x)
/-- The steps of a plan that was made. -/
structure Made (p : TProblem) (v : TVehicle) (x : TPlan) : Prop where
 steps : ∃ s0 r, x.Steps = s0 :: r ∧ s0.Visit = ⟨5, 0⟩ ∧ s0.Arrival = v.Shift.From ∧ Chain p v s0.Arrival s0.Place r
theorem Made.len {p : TProblem} {v : TVehicle} {x : TPlan} (h : Made p v x) : 2 ≤ x.Steps.length := by
 obtain ⟨s0, r, e, _, _, hc⟩ := h
 rw [e]
 cases r with
 | nil => exact hc.elim
 | cons a r => simp
theorem stopE_five (p : TProblem) (v : TVehicle) : (stopE p v ⟨5, 0⟩).2 = false := by
 have : taskOf ⟨5, 0⟩ = (⟨false, 0⟩, false) := taskOf_none (by decide) (by decide) (by decide)
 unfold stopE
 rw [if_neg (by decide)]
 simp [stopS, this]
/-- The program's Ends. -/
def endsP (p : TProblem) (v : TVehicle) (steps : List TStep) (i t : Int) : Int × Bool :=
 if i < 0 ∨ ((latestS p v steps).length : Int) ≤ i ∨ (latestS p v steps).getD i.toNat 0 < t then (0, false) else
 if i = 0 then (match steps with
  | a :: b :: r => (goQ p v (b :: r) (t + cellS p.Time a.Place b.Place), true)
  | _ => (t, true))
 else (goQ p v (steps.drop i.toNat) t, true)
theorem Made.latest_len {p : TProblem} {v : TVehicle} {x : TPlan} (h : Made p v x) : (latestS p v x.Steps).length = x.Steps.length := by
 obtain ⟨s0, r, e, _, _, hc⟩ := h
 rw [e]
 cases r with
 | nil => exact hc.elim
 | cons a r => rw [latestS_length]; rfl
theorem Made.key {p : TProblem} {v : TVehicle} {x : TPlan} (h : Made p v x) (i : Nat) (hi : i < x.Steps.length) :
  (∀ t, (endsS p v (x.Steps.drop i) t).2 = true ↔ t ≤ (latestS p v x.Steps).getD i 0) ∧ (∀ t, t ≤ (latestS p v x.Steps).getD i 0 → endsP p v x.Steps i t = endsS p v (x.Steps.drop i) t) ∧ (x.Steps.getD i zStep).Arrival ≤ (latestS p v x.Steps).getD i 0 ∧
   endsP p v x.Steps i (x.Steps.getD i zStep).Arrival = ((x.Steps.getLastD zStep).Arrival, true) ∧ (∀ t u, t ≤ u → u ≤ (latestS p v x.Steps).getD i 0 → (endsP p v x.Steps i t).1 ≤ (endsP p v x.Steps i u).1) := by
 have hlen := h.latest_len
 obtain ⟨s0, r, e, h5, h0, hc⟩ := h
 rw [e] at hlen hi ⊢
 cases r with
 | nil => exact hc.elim
 | cons a r =>
  have hp : ∀ (t : Int), t ≤ (latestS p v (s0 :: a :: r)).getD i 0 → endsP p v (s0 :: a :: r) i t = if i = 0 then (goQ p v (a :: r) (t + cellS p.Time s0.Place a.Place), true) else (goQ p v ((s0 :: a :: r).drop i) t, true) := by
   intro t ht
   unfold endsP
   rw [if_neg (by rintro (h | h | h); omega; rw [hlen] at h; omega; simp only [Int.toNat_natCast] at h; omega)]
   simp only [Int.toNat_natCast, Int.natCast_eq_zero]
  cases i with
  | zero =>
   obtain ⟨i1, i2, -⟩ := hc.late r a _ _
   have el : (latestS p v (s0 :: a :: r)).getD 0 0 = (lateS p v (a :: r)).headD 0 - cellS p.Time s0.Place a.Place := rfl
   have ed : ∀ t, goR p v ((s0 :: a :: r).drop 0) t = goR p v (a :: r) (t + cellS p.Time s0.Place a.Place) := fun t => by
    rw [List.drop_zero, goR, h5, stopE_five, if_neg (by decide)]
   have ha := hc.1
   rw [el] at hp ⊢
   have hends : ∀ t, (endsS p v ((s0 :: a :: r).drop 0) t).2 = true ↔ ∃ e, goR p v (a :: r) (t + cellS p.Time s0.Place a.Place) = some e ∧ e ≤ v.Shift.To := fun t => by
    unfold endsS
    rw [ed t]
    cases goR p v (a :: r) (t + cellS p.Time s0.Place a.Place) <;> simp
   refine ⟨fun t => ?_, fun t ht => ?_, ?_, ?_, fun t u htu hu => ?_⟩
   ·rw [hends t, i2]
    omega
   ·obtain ⟨j1, j2⟩ := hc.same r a _ _ (t + cellS p.Time s0.Place a.Place) (by omega)
    rw [hp t ht, if_pos rfl]
    unfold endsS
    rw [ed t, j1]
    simp [j2]
   ·show s0.Arrival ≤ _
    omega
   ·show endsP p v (s0 :: a :: r) (0 : Nat) s0.Arrival = _
    rw [hp _ (by omega), if_pos rfl, ← ha, goQ_arrival r a _ _ hc]
    rfl
   ·rw [hp t (by omega), hp u hu, if_pos rfl, if_pos rfl]
    exact goQ_mono r a _ _ hc _ _ (by omega) (by omega)
  | succ k =>
   have hk : k < (a :: r).length := by simpa using hi
   obtain ⟨t1, at1, hd⟩ := hc.drop k (a :: r) _ _ hk
   have edr : (s0 :: a :: r).drop (k + 1) = (a :: r).drop k := rfl
   obtain ⟨b, r', eb⟩ : ∃ b r', (a :: r).drop k = b :: r' := by
    cases hx : (a :: r).drop k with
    | nil => rw [hx] at hd; exact hd.elim
    | cons b r' => exact ⟨b, r', rfl⟩
   have el : (latestS p v (s0 :: a :: r)).getD (k + 1) 0 = (lateS p v (b :: r')).headD 0 := by
    rw [← eb, lateS_drop]
    show (lateS p v (a :: r)).getD k 0 = _
    rw [List.getD_eq_getElem?_getD, List.headD_eq_head?_getD, List.head?_drop]
   have eg : (s0 :: a :: r).getD (k + 1) zStep = b := by
    have h' : ((a :: r).drop k)[0]? = some b := by rw [eb]; rfl
    rw [List.getElem?_drop] at h'
    rw [List.getD_eq_getElem?_getD, List.getElem?_cons_succ]
    simp only [Nat.add_zero] at h'
    rw [h']
    rfl
   have elast : (s0 :: a :: r).getLastD zStep = (b :: r').getLast (by simp) := by
    have h1 : (s0 :: a :: r) = (s0 :: (a :: r).take k) ++ (b :: r') := by rw [← eb, List.cons_append, List.take_append_drop]
    rw [h1, List.getLastD_eq_getLast?, List.getLast?_append, List.getLast?_eq_some_getLast (by simp)]
    rfl
   rw [el] at hp ⊢
   rw [edr, eb] at hp ⊢
   rw [eb] at hd
   obtain ⟨i1, i2, -⟩ := hd.late r' b _ _
   rw [eg, elast]
   refine ⟨fun t => ?_, fun t ht => ?_, i1, ?_, fun t u htu hu => ?_⟩
   ·rw [← i2]
    unfold endsS
    cases goR p v (b :: r') t <;> simp
   ·obtain ⟨j1, j2⟩ := hd.same r' b _ _ t ht
    rw [hp t ht, if_neg (by omega)]
    unfold endsS
    rw [j1]
    simp [j2]
   ·rw [hp _ i1, if_neg (by omega), goQ_arrival r' b _ _ hd]
   ·rw [hp t (by omega), hp u hu, if_neg (by omega), if_neg (by omega)]
    exact goQ_mono r' b _ _ hd _ _ htu hu
/-! ### a shift that ends later -/
def lateVeh (v : TVehicle) (by_ : Int) : TVehicle := { v with Shift := ⟨v.Shift.From, v.Shift.To + by_⟩ }
theorem stopE_late (p p' : TProblem) (v : TVehicle) (by_ : Int) (x : TVisit) (hj : p'.Jobs = p.Jobs) (hs : p'.Shipments = p.Shipments) : stopE p' (lateVeh v by_) x = stopE p v x := by
 unfold stopE stopS thereB lateVeh
 rw [hj, hs]
theorem Chain.later {p p' : TProblem} {v : TVehicle} {by_ : Int} (h0 : 0 ≤ by_) (hj : p'.Jobs = p.Jobs) (hs : p'.Shipments = p.Shipments) (ht : p'.Time = p.Time) : ∀ (l : List TStep) (t at_ : Int), Chain p v t at_ l → Chain p' (lateVeh v by_) t at_ l
 | [], _, _, h => h.elim
 | [a], t, at_, h => ⟨ht ▸ h.1, by have := h.2; simp only at this; simp only [lateVeh]; omega⟩
 | a :: b :: r, t, at_, h => by
  obtain ⟨h1, h2, h3, h4, h5, h6⟩ := h
  refine ⟨ht ▸ h1, ?_⟩
  simp only [stopE_late p p' v by_ a.Visit hj hs]
  exact ⟨h2, h3, h4, h5, Chain.later h0 hj hs ht (b :: r) _ _ h6⟩
theorem goR_late {p p' : TProblem} {v : TVehicle} {by_ : Int} (hj : p'.Jobs = p.Jobs) (hs : p'.Shipments = p.Shipments) (ht : p'.Time = p.Time) : ∀ (l : List TStep) (t : Int), goR p' (lateVeh v by_) l t = goR p v l t
 | [], _ => rfl
 | [_], _ => rfl
 | a :: b :: r, t => by
  simp only [goR, stopE_late p p' v by_ a.Visit hj hs, ht, goR_late hj hs ht (b :: r)]
theorem Made.later {p p' : TProblem} {v : TVehicle} {by_ : Int} {x : TPlan} (h0 : 0 ≤ by_) (hj : p'.Jobs = p.Jobs) (hs : p'.Shipments = p.Shipments) (ht : p'.Time = p.Time) (h : Made p v x) : Made p' (lateVeh v by_) x := by
 obtain ⟨s0, r, e, h5, hf, hc⟩ := h
 exact ⟨s0, r, e, h5, hf, hc.later h0 hj hs ht⟩
theorem Made.shift {p p' : TProblem} {v : TVehicle} {by_ : Int} {x : TPlan} (h0 : 0 ≤ by_) (hj : p'.Jobs = p.Jobs) (hs : p'.Shipments = p.Shipments) (ht : p'.Time = p.Time) (h : Made p v x) (i : Nat) (hi : i < x.Steps.length) :
  (latestS p v x.Steps).getD i 0 ≤ (latestS p' (lateVeh v by_) x.Steps).getD i 0 := by
 have h1 := ((h.key i hi).1 _).2 (Int.le_refl _)
 refine (((h.later h0 hj hs ht).key i hi).1 _).1 ?_
 unfold endsS at h1 ⊢
 rw [goR_late hj hs ht]
 cases hg : goR p v (x.Steps.drop i) ((latestS p v x.Steps).getD i 0) with
 | none => rw [hg] at h1; cases h1
 | some e =>
  rw [hg] at h1
  simp only [decide_eq_true_eq] at h1 ⊢
  simp only [lateVeh]
  omega
theorem Made.last {p : TProblem} {v : TVehicle} {x : TPlan} (h : Made p v x) : (latestS p v x.Steps).getLastD 0 = v.Shift.To := by
 obtain ⟨s0, r, e, h5, hf, hc⟩ := h
 rw [e]
 cases r with
 | nil => exact hc.elim
 | cons a r =>
  rw [latestS, List.getLastD_cons]
  exact lateS_last p v (a :: r) _ (by simp)
/-! ### what Of makes is such a plan -/
/-! ### Set and Fit, in plain words -/
def brkS (at_ : List Int) (i : Int) : Nat → List TVisit
 | 0 => []
 | k + 1 => brkS at_ i k ++ (if rd at_ k = i then [⟨4, k⟩] else [])
def setTo (l : List TVisit) (at_ : List Int) : Nat → List TVisit
 | 0 => []
 | i + 1 => setTo l at_ i ++ brkS at_ i at_.length ++ (if i < l.length then [rdVisit l i] else [])
def setS (l : List TVisit) (at_ : List Int) : List TVisit := setTo l at_ (l.length + 1)
theorem brkS_len (at_ : List Int) (i : Int) : ∀ k, (brkS at_ i k).length ≤ k
 | 0 => Nat.le_refl _
 | k + 1 => by
  have := brkS_len at_ i k
  rw [brkS, List.length_append]
  split <;> simp <;> omega
theorem setTo_len (l : List TVisit) (at_ : List Int) : ∀ i, (setTo l at_ i).length ≤ i * (at_.length + 1)
 | 0 => by simp [setTo]
 | i + 1 => by
  have := setTo_len l at_ i
  have := brkS_len at_ i at_.length
  rw [setTo, List.length_append, List.length_append, Nat.add_mul]
  split <;> simp <;> omega
/-- The places of breaks that Fit tries, from the i-th, k-th on. -/
def tryS (p : TProblem) (vehicle : Int) (l : List TVisit) (n : Nat) : List (Nat × Nat) → TPlan × Int
 | [] => (zPlan, 167)
 | (i, k) :: r => if (ofS p vehicle (setS l (([(i : Int), (k : Int)] : List Int).take n))).2 = 167 then tryS p vehicle l n r else ofS p vehicle (setS l (([(i : Int), (k : Int)] : List Int).take n))
/-- From k on in the i-th row, to m. -/
def rowPairs (i : Nat) (m k : Nat) : List (Nat × Nat) := (List.range' k (m + 1 - k)).map (fun j => (i, j))
def pairsFrom (n m : Nat) (i : Nat) : List (Nat × Nat) := (List.range' i (m + 1 - i)).flatMap (fun i => if n = 1 then [(i, i)] else rowPairs i m i)
def fitS (p : TProblem) (vehicle : Int) (l : List TVisit) : TPlan × Int :=
 if vehicle < 0 ∨ (p.Vehicles.length : Int) ≤ vehicle then (zPlan, 160) else
 if l.any (fun x => decide (x.Kind = 4)) then (zPlan, 162) else
 if (rdVehicle p.Vehicles vehicle).Breaks.length = 0 then ofS p vehicle l else
 tryS p vehicle l (rdVehicle p.Vehicles vehicle).Breaks.length (pairsFrom (rdVehicle p.Vehicles vehicle).Breaks.length l.length 0)
theorem rowPairs_at (i m k : Nat) (h : k ≤ m) : rowPairs i m k = (i, k) :: rowPairs i m (k + 1) := by
 unfold rowPairs
 rw [show m + 1 - k = (m + 1 - (k + 1)) + 1 by omega, List.range'_succ, List.map_cons]
theorem rowPairs_end (i m : Nat) : rowPairs i m (m + 1) = [] := by simp [rowPairs]
theorem pairsFrom_at (n m i : Nat) (h : i ≤ m) : pairsFrom n m i = (if n = 1 then [(i, i)] else rowPairs i m i) ++ pairsFrom n m (i + 1) := by
 unfold pairsFrom
 rw [show m + 1 - i = (m + 1 - (i + 1)) + 1 by omega, List.range'_succ, List.flatMap_cons]
theorem pairsFrom_end (n m : Nat) : pairsFrom n m (m + 1) = [] := by simp [pairsFrom]
end Go.Proofs.Ytemjpgmfignhnaa

/- The document's Ends, in plain words.
Conditions: none. -/
namespace Go.Proofs.Ytemjpgmfignhnaa
open Go.RowKit Go.Proofs.YtemjpgmfignhnaaW.PrintWords Go.Proofs.YtemjpgmfignhnaaW.PrintLast Go.Proofs.YtemjpgmfignhnaaW.PrintMore
set_option linter.unusedVariables false
set_option linter.unusedSimpArgs false
attribute [local go_sem] cell_growBy Option.some_or
end Go.Proofs.Ytemjpgmfignhnaa

/- A row of the call's own whose elements lead to elder memory: grown, kept, read.
Conditions: none. -/
namespace Go.Proofs.Ytemjpgmfignhnaa
open Go.RowKit Go.Proofs.YtemjpgmfignhnaaW.PrintWords Go.Proofs.YtemjpgmfignhnaaW.PrintLast Go.Proofs.YtemjpgmfignhnaaW.PrintMore
set_option linter.unusedVariables false
set_option linter.unusedSimpArgs false
section
variable {α : Type} {d : Kd α} {e lo base : Nat} {w w1 W : World} {v : Value} {xs : List α}
/-- v is a row of type e in a block from base on (or nil); its elements hang on blocks from lo to base. -/
def OwnF (d : Kd α) (e : Nat) (w : World) (lo base : Nat) (v : Value) (xs : List α) : Prop := OwnRow (Kd.FK d w (fun k => lo ≤ k ∧ k < base)) e d.sz w base v xs
theorem OwnF.nil (d : Kd α) (e : Nat) (w : World) (lo base : Nat) : OwnF d e w lo base (.slice none 0 0) [] := OwnRow.none_ _ _ _ _ _
theorem OwnF.base_le (h : OwnF d e w lo base v xs) (k : Nat) (hk : v.ownBlock = some k) : base ≤ k := by
 obtain ⟨inner, ho, _⟩ := h
 exact own_base ho k hk
theorem OwnF.ne_typed (h : OwnF d e w lo base v xs) {g t : Nat} {cells : Array Value} (hb : w.heap[g]? = some (.cells cells t (0, 0))) (ht : e ≠ t) : some g ≠ v.ownBlock := OwnRow.ne_block h hb ht
theorem OwnF.step (h : OwnF d e w lo base v xs) (hlow : ∀ k, lo ≤ k → k < base → k < w.heap.size → w1.heap[k]? = w.heap[k]?) (hown : ∀ k, v.ownBlock = some k → w1.heap[k]? = w.heap[k]?) : OwnF d e w1 lo base v xs := by
 obtain ⟨inner, ho, hr⟩ := h
 exact ⟨inner, own_move ho hown, hr.imp_ (fun _ _ hk => Kd.FK_step hk (fun k hk => hlow k hk.1 hk.2))⟩
theorem OwnF.below (h : OwnF d e w lo base v xs) (hb : Below w.heap.size w w1) : OwnF d e w1 lo base v xs := h.step (fun k _ _ hk => hb.block k hk) (fun k hk => by
 obtain ⟨inner, ho, _⟩ := h
 exact hb.block k (own_lt ho k hk))
/-- A cell of another block, from base on, is written. -/
theorem OwnF.set (h : OwnF d e w lo base v xs) {p : Addr} (hp : base ≤ p.block) (hne : some p.block ≠ v.ownBlock) (u : Value) : OwnF d e (w.setCell p u) lo base v xs :=
 h.step (fun k _ hk _ => Below.heap_setCell w p u k (by omega)) (fun k hk => Below.heap_setCell w p u k (fun e => hne (by rw [hk, e])))
/-- A cell of an elder block is written. -/
theorem OwnF.set_low (h : OwnF d e w lo base v xs) {p : Addr} (hp : p.block < lo) (hlo : lo ≤ base) (u : Value) : OwnF d e (w.setCell p u) lo base v xs :=
 h.step (fun k hk _ _ => Below.heap_setCell w p u k (by omega)) (fun k hk => Below.heap_setCell w p u k (by have := h.base_le k hk; omega))
theorem OwnF.reads (h : OwnF d e w lo base v xs) : ∃ A c, v = .slice A xs.length c ∧ xs.length ≤ c ∧ d.C w A xs.length xs := by
 obtain ⟨A, c, he, hl, hr⟩ := OwnRow.reads h
 exact ⟨A, c, he, hl, hr.imp_ (Below.refl _ _) (fun _ _ hp => Kd.FK_now hp)⟩
theorem OwnF.appended {p : α} {v1 : Value} {inner cs : List Value} (hr : Reps (Kd.FK d W (fun k => lo ≤ k ∧ k < base)) d.sz xs inner) (hp : Kd.FK d W (fun k => lo ≤ k ∧ k < base) p cs) (hl : cs.length = d.sz)
  (hown : W.ownsRow base e d.sz v xs.length inner) (hown1 : w1.ownsRow base e d.sz v1 (xs.length + 1) (inner ++ cs)) (hg : W.grownBy w1 v.ownBlock) : OwnF d e w1 lo base v1 (xs ++ [p]) := by
 have hm : ∀ k, (lo ≤ k ∧ k < base) → k < W.heap.size → w1.heap[k]? = W.heap[k]? := fun k hk hlt => hg.block k hlt (fun he => by have := own_base hown k he.symm; omega)
 refine ⟨inner ++ cs, by simpa using hown1, ?_⟩
 have h1 : Reps (Kd.FK d w1 (fun k => lo ≤ k ∧ k < base)) d.sz xs inner := hr.imp_ (fun _ _ hk => Kd.FK_step hk hm)
 have h2 : Kd.FK d w1 (fun k => lo ≤ k ∧ k < base) p cs := Kd.FK_step hp hm
 refine ⟨by rw [List.length_append, h1.1, hl, List.length_append, List.length_singleton, Nat.add_mul, Nat.one_mul], fun j x hj => ?_⟩
 rcases Nat.lt_or_ge j xs.length with hlt | hge
 ·rw [List.getElem?_append_left hlt] at hj
  have hseg : ((inner ++ cs).drop (j * d.sz)).take d.sz = (inner.drop (j * d.sz)).take d.sz := by
   have hb : j * d.sz + d.sz ≤ inner.length := by rw [h1.1, ← Nat.succ_mul]; exact Nat.mul_le_mul_right _ hlt
   rw [List.drop_append_of_le_length (by omega), List.take_append_of_le_length (by rw [List.length_drop]; omega)]
  rw [hseg]
  exact h1.2 j x hj
 ·rw [List.getElem?_append_right hge] at hj
  have e0 : j = xs.length := by
   rcases Nat.eq_or_lt_of_le hge with h | h
   ·exact h.symm
   ·rw [List.getElem?_eq_none (by simp; omega)] at hj
    cases hj
  subst e0
  obtain rfl : p = x := by simpa using hj
  have hseg : ((inner ++ cs).drop (xs.length * d.sz)).take d.sz = cs := by
   rw [← h1.1, List.drop_left, ← hl, List.take_length]
  rw [hseg]
  exact h2
end
section
variable {P : Program} {ops : Array Oper} {o : Oper} {a : Act} {rest : List Oper} {Q : Exit → Act → World → Prop} {Kc : Act → World → Prop} {α : Type} {lo : Nat}
theorem OwnF.append (d : Kd α) {w0 W : World} (base : Nat) (hgd : o.guard = none) (s x : Operand) (t e : TypeId) (z : Value) (bytes : Nat)
  (ho : o.op = .call { callee := .builtin .append, args := #[s, x], argTypes := #[t, t] })
  (ht : P.underlying t = some (.slice e)) (hinfo : (P.info? e).map (fun i => (i.zero, i.size, i.bytes)) = some (some z, d.sz, bytes)) (hz : z.cells.size = d.sz) (hs0 : 0 < d.sz) (hb0 : 0 < bytes)
  (v : Value) (xs : List α) (p : α) (cs : List Value) (hs : a.eval s = v) (hx : a.eval x = .slice (some ⟨W.heap.size, 0, none⟩) 1 1) (hp : Kd.FK d W (fun k => lo ≤ k ∧ k < base) p cs)
  (HO : OwnF d e W lo base v xs) (HB : Below base w0 W) (hbase : base ≤ W.heap.size) (hl : (xs.length + 1) * bytes ≤ 140737488355328)
  (h : ∀ v1 w1, OwnF d e w1 lo base v1 (xs ++ [p]) → Below base w0 w1 → W.grownBy w1 v.ownBlock → (v1.ownBlock = v.ownBlock ∨ ∃ b, v1.ownBlock = some b ∧ W.heap.size ≤ b) → wpList P ops Q rest (a.put o.dst v1) w1) : wpList P ops Q (o :: rest) a (W.alloc (.cells cs.toArray e)) := by
 obtain ⟨inner, hown, hr⟩ := HO
 have hK := Kd.FK_now hp
 refine print_append_cells base hgd s x t e z d.sz bytes ho ht hinfo hz hs0 hb0 v xs.length inner cs hs hx (d.K_len hK) (d.K_one hK) hown HB hbase hl ?_
 intro v1 w1 hown1 hb1 hg1 hat1
 exact h v1 w1 (OwnF.appended hr hp (d.K_len hK) hown hown1 hg1) hb1 hg1 hat1
end
end Go.Proofs.Ytemjpgmfignhnaa

/- How a function ends that hands back a plan out of a block of its own.
Conditions: none. -/
namespace Go.Proofs.Ytemjpgmfignhnaa
open Go.RowKit Go.Proofs.YtemjpgmfignhnaaW.PrintWords Go.Proofs.YtemjpgmfignhnaaW.PrintLast Go.Proofs.YtemjpgmfignhnaaW.PrintMore
set_option linter.unusedVariables false
theorem gen_ret {P : Program} {f : Func} {Q : Ending → World → Prop} {e : Exit} {a : Act} {W : World} (R : World → Prop) (hR : R W) (h : ∀ WF, R WF → bodyPost P f Q e a WF) : bodyPost P f Q e a W := h W hR
theorem blk_set7 {W : World} {g t : Nat} {c0 c1 c2 c3 c4 c5 c6 : Value} (h : W.heap[g]? = some (.cells #[c0, c1, c2, c3, c4, c5, c6] t (0, 0))) (u0 u1 u2 u3 u4 u5 u6 : Value) :
  (((((((W.setCell ⟨g, 0, none⟩ u0).setCell ⟨g, 1, none⟩ u1).setCell ⟨g, 2, none⟩ u2).setCell ⟨g, 3, none⟩ u3).setCell ⟨g, 4, none⟩ u4).setCell ⟨g, 5, none⟩ u5).setCell ⟨g, 6, none⟩ u6).heap[g]? = some (.cells #[u0, u1, u2, u3, u4, u5, u6] t (0, 0)) := by
 have h := blk_set (blk_set (blk_set (blk_set (blk_set (blk_set (blk_set h 0 u0) 1 u1) 2 u2) 3 u3) 4 u4) 5 u5) 6 u6
 simpa using h
theorem below_set7 {w W : World} {n g : Nat} (h : Below n w W) (hg : n ≤ g) (u0 u1 u2 u3 u4 u5 u6 : Value) :
  Below n w (((((((W.setCell ⟨g, 0, none⟩ u0).setCell ⟨g, 1, none⟩ u1).setCell ⟨g, 2, none⟩ u2).setCell ⟨g, 3, none⟩ u3).setCell ⟨g, 4, none⟩ u4).setCell ⟨g, 5, none⟩ u5).setCell ⟨g, 6, none⟩ u6) :=
 Below.setCell (Below.setCell (Below.setCell (Below.setCell (Below.setCell (Below.setCell (Below.setCell h hg u0) hg u1) hg u2) hg u3) hg u4) hg u5) hg u6
/-- What a row of one's own hangs on. -/
theorem OwnF.F {α : Type} {d : Kd α} {e lo base : Nat} {v : Value} {W : World} {xs : List α} (h : OwnF d e W lo base v xs) (hlo : lo ≤ base) : ∃ A c, v = .slice A xs.length c ∧ xs.length ≤ c ∧ Kd.F d W (fun k => lo ≤ k) A xs.length xs := by
 obtain ⟨A, c, e1, hl, _⟩ := h.reads
 refine ⟨A, c, e1, hl, fun W' hW => ?_⟩
 have h2 : OwnF d e W' lo base v xs := h.step (fun k hk _ hs => hW k hk hs) (fun k hk => hW k (Nat.le_trans hlo (h.base_le k hk)) (by
  obtain ⟨inner, ho, _⟩ := h
  exact own_lt ho k hk))
 obtain ⟨A2, c2, e2, _, hC⟩ := h2.reads
 rw [e1] at e2
 simp only [Value.slice.injEq] at e2
 obtain ⟨eA, _, _⟩ := e2
 rw [eA]
 exact hC
theorem OwnF.set7 {α : Type} {d : Kd α} {e lo base g : Nat} {W : World} {v : Value} {xs : List α} (h : OwnF d e W lo base v xs) (hg : g < lo) (hlo : lo ≤ base) (u0 u1 u2 u3 u4 u5 u6 : Value) :
  OwnF d e (((((((W.setCell ⟨g, 0, none⟩ u0).setCell ⟨g, 1, none⟩ u1).setCell ⟨g, 2, none⟩ u2).setCell ⟨g, 3, none⟩ u3).setCell ⟨g, 4, none⟩ u4).setCell ⟨g, 5, none⟩ u5).setCell ⟨g, 6, none⟩ u6) lo base v xs :=
 ((((((h.set_low hg hlo u0).set_low hg hlo u1).set_low hg hlo u2).set_low hg hlo u3).set_low hg hlo u4).set_low hg hlo u5).set_low hg hlo u6
end Go.Proofs.Ytemjpgmfignhnaa
