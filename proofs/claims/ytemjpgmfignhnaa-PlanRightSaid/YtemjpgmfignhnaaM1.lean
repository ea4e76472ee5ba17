/- Short contracts, walked directly, of the functions about tasks and stops of a problem: the document's and the program's.
Conditions: lists no longer than memory allows. -/
import Derived.Test.YtemjpgmfignhnaaM0
namespace Go.Proofs.Ytemjpgmfignhnaa
open Go.RowKit Go.Proofs.YtemjpgmfignhnaaW.PrintWords Go.Proofs.YtemjpgmfignhnaaW.PrintLast Go.Proofs.YtemjpgmfignhnaaW.PrintMore
set_option linter.unusedVariables false
set_option linter.unusedSimpArgs false
attribute [local go_sem] cell_growBy Option.some_or
def upB (x most : Int) : Bool := decide (0 ≤ x) && decide (x ≤ most)
theorem upB_true {x most : Int} (h : upB x most = true) : 0 ≤ x ∧ x ≤ most := by simpa [upB] using h
theorem upB_mk {x most : Int} (h : 0 ≤ x) (h' : x ≤ most) : upB x most = true := by simp [upB, h, h']
set_option maxRecDepth 100000 in
theorem up_any (x most : Int) (w : World) : Calls Try.prog 87 #[.int .i64 x, .int .i64 most] w fun e w' => e = .returned (.bool (upB x most)) ∧ w = w' := by
 unfold upB
 by_cases h : 0 ≤ x
 all_goals
  go_enter Try.func87, Try.ntmps87
  go_wp2
  all_goals
   go_ret
   exact ⟨by simp [*]; try omega, rfl⟩
/-- There is such a task. -/
def thereB (p : TProblem) (t : TTask) : Bool := if t.Ship = true then upB t.Item ((p.Shipments.length : Int) - 1) else upB t.Item ((p.Jobs.length : Int) - 1)
set_option maxRecDepth 100000 in
theorem refThere_any (q : PV) (p : TProblem) (t : TTask) (w : World) (hl : Lens p) :
  Calls Try.prog 44 #[q.val p, .agg #[.bool t.Ship, .int .i64 t.Item]] w fun e w' => e = .returned (.bool (thereB p t)) ∧ Below w.heap.size w w' := by
 have ej : IntKind.i64.wrap ((p.Jobs.length : Int) - 1) = (p.Jobs.length : Int) - 1 := IntWalk.i64_in _ (by have := hl.n4; omega)
 have es : IntKind.i64.wrap ((p.Shipments.length : Int) - 1) = (p.Shipments.length : Int) - 1 := IntWalk.i64_in _ (by have := hl.n5; omega)
 obtain ⟨ship, item⟩ := t
 unfold PV.val
 cases ship
 all_goals
  go_enter Try.func44, Try.ntmps44
  go_wp2_with (go_at_call 87; refine (up_any _ _ _).mono ?_; rintro e w' ⟨rfl, rfl⟩)
  go_ret
  exact ⟨by simp [thereB], clb⟩
set_option maxRecDepth 100000 in
theorem there_any (q : PV) (p : TProblem) (t : TTask) (w : World) (hl : Lens p) :
  Calls Try.prog 33 #[q.val p, .agg #[.bool t.Ship, .int .i64 t.Item]] w fun e w' => e = .returned (.bool (thereB p t)) ∧ Below w.heap.size w w' := by
 obtain ⟨ship, item⟩ := t
 unfold PV.val
 by_cases h : 0 ≤ item
 all_goals
  cases ship
  all_goals
   go_enter Try.func33, Try.ntmps33
   go_wp2
   all_goals
    try go_quiet (fail)
    go_wp2
    go_ret
    exact ⟨by simp [thereB, upB, *]; try omega, clb⟩
/-- The task of a visit. -/
def taskOf (v : TVisit) : TTask × Bool := if v.Kind = 1 then (⟨false, v.Item⟩, true) else if v.Kind = 2 ∨ v.Kind = 3 then (⟨true, v.Item⟩, true) else (⟨false, 0⟩, false)
set_option maxRecDepth 100000 in
theorem refOf_any (v : TVisit) (w : World) : Calls Try.prog 43 #[.agg #[.int .i64 v.Kind, .int .i64 v.Item]] w fun e w' => e = .returned (.tuple #[.agg #[.bool (taskOf v).1.Ship, .int .i64 (taskOf v).1.Item], .bool (taskOf v).2]) ∧ Below w.heap.size w w' := by
 obtain ⟨k, item⟩ := v
 by_cases h1 : k = 1
 ·subst h1
  go_enter Try.func43, Try.ntmps43
  go_wp2
  exact bodyPost_ret (v := .tuple #[.agg #[.bool false, .int .i64 item], .bool true]) (by simp [results, Try.results43, go_sem]) rfl ⟨rfl, clb⟩
 by_cases h2 : k = 2
 ·subst h2
  go_enter Try.func43, Try.ntmps43
  go_wp2
  exact bodyPost_ret (v := .tuple #[.agg #[.bool true, .int .i64 item], .bool true]) (by simp [results, Try.results43, go_sem]) rfl ⟨rfl, clb⟩
 by_cases h3 : k = 3
 ·subst h3
  go_enter Try.func43, Try.ntmps43
  go_wp2
  exact bodyPost_ret (v := .tuple #[.agg #[.bool true, .int .i64 item], .bool true]) (by simp [results, Try.results43, go_sem]) rfl ⟨rfl, clb⟩
 have e : taskOf ⟨k, item⟩ = (⟨false, 0⟩, false) := by simp [taskOf, h1, h2, h3]
 have d1 : (k == 1) = false := beq_eq_false_iff_ne.mpr h1
 have d2 : (k == 2) = false := beq_eq_false_iff_ne.mpr h2
 have d3 : (k == 3) = false := beq_eq_false_iff_ne.mpr h3
 rw [e]
 clear h1 h2 h3 e
 go_enter Try.func43, Try.ntmps43
 go_wp2
 exact bodyPost_ret (v := .tuple #[.agg #[.bool false, .int .i64 0], .bool false]) (by simp [results, Try.results43, go_sem]) rfl ⟨rfl, clb⟩
set_option maxRecDepth 100000 in
theorem of_any (v : TVisit) (w : World) : Calls Try.prog 41 #[.agg #[.int .i64 v.Kind, .int .i64 v.Item]] w fun e w' => e = .returned (.tuple #[.agg #[.bool (taskOf v).1.Ship, .int .i64 (taskOf v).1.Item], .bool (taskOf v).2]) ∧ Below w.heap.size w w' := by
 obtain ⟨k, item⟩ := v
 by_cases h1 : k = 1
 ·subst h1
  go_enter Try.func41, Try.ntmps41
  go_wp2
  exact bodyPost_ret (v := .tuple #[.agg #[.bool false, .int .i64 item], .bool true]) (by simp [results, Try.results41, go_sem]) rfl ⟨rfl, clb⟩
 by_cases h2 : k = 2
 ·subst h2
  go_enter Try.func41, Try.ntmps41
  go_wp2
  exact bodyPost_ret (v := .tuple #[.agg #[.bool true, .int .i64 item], .bool true]) (by simp [results, Try.results41, go_sem]) rfl ⟨rfl, clb⟩
 by_cases h3 : k = 3
 ·subst h3
  go_enter Try.func41, Try.ntmps41
  go_wp2
  exact bodyPost_ret (v := .tuple #[.agg #[.bool true, .int .i64 item], .bool true]) (by simp [results, Try.results41, go_sem]) rfl ⟨rfl, clb⟩
 have e : taskOf ⟨k, item⟩ = (⟨false, 0⟩, false) := by simp [taskOf, h1, h2, h3]
 have d1 : (k == 1) = false := beq_eq_false_iff_ne.mpr h1
 have d2 : (k == 2) = false := beq_eq_false_iff_ne.mpr h2
 have d3 : (k == 3) = false := beq_eq_false_iff_ne.mpr h3
 rw [e]
 clear h1 h2 h3 e
 go_enter Try.func41, Try.ntmps41
 go_wp2
 exact bodyPost_ret (v := .tuple #[.agg #[.bool false, .int .i64 0], .bool false]) (by simp [results, Try.results41, go_sem]) rfl ⟨rfl, clb⟩
end Go.Proofs.Ytemjpgmfignhnaa
/- Short contracts, walked directly, of the functions about tasks and stops of a problem: the document's and the program's.
Conditions: lists no longer than memory allows. -/
namespace Go.Proofs.Ytemjpgmfignhnaa
open Go.RowKit Go.Proofs.YtemjpgmfignhnaaW.PrintWords Go.Proofs.YtemjpgmfignhnaaW.PrintLast Go.Proofs.YtemjpgmfignhnaaW.PrintMore
set_option linter.unusedVariables false
set_option linter.unusedSimpArgs false
attribute [local go_sem] cell_growBy Option.some_or
/-- Where a visit is. -/
def stopS (p : TProblem) (v : TVisit) : TStop × Bool :=
 if (taskOf v).2 && thereB p (taskOf v).1 then ((if v.Kind = 1 then (rdJob p.Jobs v.Item).Stop else if v.Kind = 2 then (rdShipment p.Shipments v.Item).Pickup else (rdShipment p.Shipments v.Item).Delivery), true) else (zStop, false)
def StopPost (s : TStop × Bool) (w : World) (e : Ending) (w' : World) : Prop :=
 ∃ A c, e = .returned (.tuple #[.agg #[.int .i64 s.1.Place, .int .i64 s.1.Service, .slice A s.1.Windows.length c], .bool s.2]) ∧ s.1.Windows.length ≤ c ∧ Kd.C kWindow w' A s.1.Windows.length s.1.Windows ∧ Below w.heap.size w w'
theorem taskOf_none {v : TVisit} (h1 : v.Kind ≠ 1) (h2 : v.Kind ≠ 2) (h3 : v.Kind ≠ 3) : taskOf v = (⟨false, 0⟩, false) := by simp [taskOf, h1, h2, h3]
set_option maxHeartbeats 4000000 in
set_option maxRecDepth 100000 in
theorem refStop_any (q : PV) (p : TProblem) (v : TVisit) (w : World) (hl : Lens p) (hq : q.Ok p w) :
  Calls Try.prog 37 #[q.val p, .agg #[.int .i64 v.Kind, .int .i64 v.Item]] w (StopPost (stopS p v) w) := by
 have HL := Aside0.mk hl
 have HQ := Aside0.mk hq
 clear hl hq
 cases hb : (taskOf v).2 && thereB p (taskOf v).1 with
 | false =>
  have es : stopS p v = (zStop, false) := by simp [stopS, hb]
  rw [es]
  obtain ⟨k, item⟩ := v
  unfold PV.val
  cases ht : (taskOf ⟨k, item⟩).2 with
  | false =>
   have E := Aside0.mk ht
   clear ht hb es
   go_enter Try.func37, Try.ntmps37
   go_wp2_with (go_at_call 43; refine (refOf_any ⟨k, item⟩ _).mono ?_; rw [E.out]; rintro e w1 ⟨rfl, hb⟩; have HB1 := Aside0.mk hb; obtain ⟨qc1, qf1⟩ := bcell hb; have hs1 := hb.size; (try simp at hs1); (try have z01 : w.heap.size < w1.heap.size := (by omega)); (try have z11 : w.heap.size + 1 < w1.heap.size := (by omega)); (try have z21 : w.heap.size + 1 + 1 < w1.heap.size := (by omega)); (try have z31 : w.heap.size + 1 + 1 + 1 < w1.heap.size := (by omega)); (try have z41 : w.heap.size + 1 + 1 + 1 + 1 < w1.heap.size := (by omega)); clear hs1 hb; skip)
   exact bodyPost_ret (v := .tuple #[.agg #[.int .i64 0, .int .i64 0, .slice none 0 0], .bool false]) (by simp [results, Try.results37, go_sem, *]) rfl ⟨none, 0, rfl, Nat.le_refl _, Kd.C_nil _ _, clb⟩
  | true =>
   have E := Aside0.mk ht
   have E2 : Aside0 (thereB p (taskOf ⟨k, item⟩).1 = false) := ⟨by simpa [ht] using hb⟩
   clear ht hb es
   go_enter Try.func37, Try.ntmps37
   go_wp2_with (first
    | (go_at_call 43; refine (refOf_any ⟨k, item⟩ _).mono ?_; rw [E.out]; rintro e w1 ⟨rfl, hb⟩; have HB1 := Aside0.mk hb; obtain ⟨qc1, qf1⟩ := bcell hb; have hs1 := hb.size; (try simp at hs1); (try have z01 : w.heap.size < w1.heap.size := (by omega)); (try have z11 : w.heap.size + 1 < w1.heap.size := (by omega)); (try have z21 : w.heap.size + 1 + 1 < w1.heap.size := (by omega)); (try have z31 : w.heap.size + 1 + 1 + 1 < w1.heap.size := (by omega)); (try have z41 : w.heap.size + 1 + 1 + 1 + 1 < w1.heap.size := (by omega)); clear hs1 hb; skip)
    | (go_at_call 44; refine (refThere_any q p (taskOf ⟨k, item⟩).1 _ HL.out).mono ?_; rw [E2.out]; rintro e w2 ⟨rfl, hb⟩; have HB2 := Aside0.mk hb; obtain ⟨qc2, qf2⟩ := bcell hb; have hs2 := hb.size; (try simp at hs2); (try have z02 : w.heap.size < w2.heap.size := (by omega)); (try have z12 : w.heap.size + 1 < w2.heap.size := (by omega)); (try have z22 : w.heap.size + 1 + 1 < w2.heap.size := (by omega)); (try have z32 : w.heap.size + 1 + 1 + 1 < w2.heap.size := (by omega)); (try have z42 : w.heap.size + 1 + 1 + 1 + 1 < w2.heap.size := (by omega)); clear hs2 hb; skip))
   exact bodyPost_ret (v := .tuple #[.agg #[.int .i64 0, .int .i64 0, .slice none 0 0], .bool false]) (by simp [results, Try.results37, go_sem, *]) rfl ⟨none, 0, rfl, Nat.le_refl _, Kd.C_nil _ _, clb⟩
 | true =>
  obtain ⟨k, item⟩ := v
  simp only [Bool.and_eq_true] at hb
  obtain ⟨ht, hth⟩ := hb
  obtain ⟨a1, c1, a2, c2, a3, c3, a4, c4, a5, c5⟩ := q
  by_cases h1 : k = 1
  ·subst h1
   have e1 : taskOf ⟨1, item⟩ = (⟨false, item⟩, true) := by simp [taskOf]
   have es : stopS p ⟨1, item⟩ = ((rdJob p.Jobs item).Stop, true) := by simp [stopS, ht, hth]
   rw [es]
   have hr : 0 ≤ item ∧ item < p.Jobs.length := by
    rw [e1] at hth
    have := upB_true (show upB item ((p.Jobs.length : Int) - 1) = true from hth)
    omega
   obtain ⟨ad, A2, c2_, A3, c3_, A4, c4_, ea, y0, y1, y2, -, -, -, -, l2, g2, -, -, -, -⟩ := atJob HQ.out.h4 item hr.1 hr.2
   have ea' : a4 = some ad := ea
   subst ea'
   have X0 := stays y0
   have X1 := stays y1
   have X2 := stays y2
   have T : Aside0 (thereB p ⟨false, item⟩ = true) := ⟨by rw [e1] at hth; exact hth⟩
   have r1 := hr.1
   have r2 := hr.2
   have E := Aside0.mk e1
   have HE := Aside0.mk (show _ ∧ _ from ⟨l2, g2⟩)
   clear y0 y1 y2 l2 g2 hr hth ht es e1 ea
   unfold PV.val
   go_enter Try.func37, Try.ntmps37
   go_wp2_with (first
    | (go_at_call 43; refine (refOf_any ⟨1, item⟩ _).mono ?_; rw [E.out]; rintro e w1 ⟨rfl, hb⟩; have HB1 := Aside0.mk hb; obtain ⟨qc1, qf1⟩ := bcell hb; have hs1 := hb.size; (try simp at hs1); (try have z01 : w.heap.size < w1.heap.size := (by omega)); (try have z11 : w.heap.size + 1 < w1.heap.size := (by omega)); (try have z21 : w.heap.size + 1 + 1 < w1.heap.size := (by omega)); (try have z31 : w.heap.size + 1 + 1 + 1 < w1.heap.size := (by omega)); (try have z41 : w.heap.size + 1 + 1 + 1 + 1 < w1.heap.size := (by omega)); clear hs1 hb; skip)
    | (go_at_call 44; refine (refThere_any ⟨a1, c1, a2, c2, a3, c3, some ad, c4, a5, c5⟩ p ⟨false, item⟩ _ HL.out).mono ?_; rw [T.out]; rintro e w2 ⟨rfl, hb⟩; have HB2 := Aside0.mk hb; obtain ⟨qc2, qf2⟩ := bcell hb; have hs2 := hb.size; (try simp at hs2); (try have z02 : w.heap.size < w2.heap.size := (by omega)); (try have z12 : w.heap.size + 1 < w2.heap.size := (by omega)); (try have z22 : w.heap.size + 1 + 1 < w2.heap.size := (by omega)); (try have z32 : w.heap.size + 1 + 1 + 1 < w2.heap.size := (by omega)); (try have z42 : w.heap.size + 1 + 1 + 1 + 1 < w2.heap.size := (by omega)); clear hs2 hb; have g0 := X0.out w2 clb; have g1 := X1.out w2 clb; have g2 := X2.out w2 clb))
   exact bodyPost_ret (v := .tuple #[.agg #[.int .i64 ((rdJob p.Jobs item).Stop).Place, .int .i64 ((rdJob p.Jobs item).Stop).Service, .slice A2 ((rdJob p.Jobs item).Stop).Windows.length c2_], .bool true]) (by simp [results, Try.results37, go_sem, *]) rfl ⟨_, _, rfl, HE.out.1, Kd.C_below HE.out.2 clb, clb⟩
  by_cases h2 : k = 2
  ·subst h2
   have e1 : taskOf ⟨2, item⟩ = (⟨true, item⟩, true) := by simp [taskOf]
   have es : stopS p ⟨2, item⟩ = ((rdShipment p.Shipments item).Pickup, true) := by simp [stopS, ht, hth]
   rw [es]
   have hr : 0 ≤ item ∧ item < p.Shipments.length := by
    rw [e1] at hth
    have := upB_true (show upB item ((p.Shipments.length : Int) - 1) = true from hth)
    omega
   obtain ⟨ad, A2, c2_, A3, c3_, A4, c4_, ea, y0, y1, y2, -, -, -, -, -, -, l2, g2, -, -, -, -⟩ := atShipment HQ.out.h5 item hr.1 hr.2
   have ea' : a5 = some ad := ea
   subst ea'
   have X0 := stays y0
   have X1 := stays y1
   have X2 := stays y2
   have T : Aside0 (thereB p ⟨true, item⟩ = true) := ⟨by rw [e1] at hth; exact hth⟩
   have r1 := hr.1
   have r2 := hr.2
   have E := Aside0.mk e1
   have HE := Aside0.mk (show _ ∧ _ from ⟨l2, g2⟩)
   clear y0 y1 y2 l2 g2 hr hth ht es e1 ea
   unfold PV.val
   go_enter Try.func37, Try.ntmps37
   go_wp2_with (first
    | (go_at_call 43; refine (refOf_any ⟨2, item⟩ _).mono ?_; rw [E.out]; rintro e w1 ⟨rfl, hb⟩; have HB1 := Aside0.mk hb; obtain ⟨qc1, qf1⟩ := bcell hb; have hs1 := hb.size; (try simp at hs1); (try have z01 : w.heap.size < w1.heap.size := (by omega)); (try have z11 : w.heap.size + 1 < w1.heap.size := (by omega)); (try have z21 : w.heap.size + 1 + 1 < w1.heap.size := (by omega)); (try have z31 : w.heap.size + 1 + 1 + 1 < w1.heap.size := (by omega)); (try have z41 : w.heap.size + 1 + 1 + 1 + 1 < w1.heap.size := (by omega)); clear hs1 hb; skip)
    | (go_at_call 44; refine (refThere_any ⟨a1, c1, a2, c2, a3, c3, a4, c4, some ad, c5⟩ p ⟨true, item⟩ _ HL.out).mono ?_; rw [T.out]; rintro e w2 ⟨rfl, hb⟩; have HB2 := Aside0.mk hb; obtain ⟨qc2, qf2⟩ := bcell hb; have hs2 := hb.size; (try simp at hs2); (try have z02 : w.heap.size < w2.heap.size := (by omega)); (try have z12 : w.heap.size + 1 < w2.heap.size := (by omega)); (try have z22 : w.heap.size + 1 + 1 < w2.heap.size := (by omega)); (try have z32 : w.heap.size + 1 + 1 + 1 < w2.heap.size := (by omega)); (try have z42 : w.heap.size + 1 + 1 + 1 + 1 < w2.heap.size := (by omega)); clear hs2 hb; have g0 := X0.out w2 clb; have g1 := X1.out w2 clb; have g2 := X2.out w2 clb))
   exact bodyPost_ret (v := .tuple #[.agg #[.int .i64 ((rdShipment p.Shipments item).Pickup).Place, .int .i64 ((rdShipment p.Shipments item).Pickup).Service, .slice A2 ((rdShipment p.Shipments item).Pickup).Windows.length c2_], .bool true]) (by simp [results, Try.results37, go_sem, *]) rfl ⟨_, _, rfl, HE.out.1, Kd.C_below HE.out.2 clb, clb⟩
  by_cases h3 : k = 3
  ·subst h3
   have e1 : taskOf ⟨3, item⟩ = (⟨true, item⟩, true) := by simp [taskOf]
   have es : stopS p ⟨3, item⟩ = ((rdShipment p.Shipments item).Delivery, true) := by simp [stopS, ht, hth]
   rw [es]
   have hr : 0 ≤ item ∧ item < p.Shipments.length := by
    rw [e1] at hth
    have := upB_true (show upB item ((p.Shipments.length : Int) - 1) = true from hth)
    omega
   obtain ⟨ad, A0, c0_, A2, c2_, A4, c4_, ea, -, -, -, y0, y1, y2, -, -, -, -, -, l2, g2, -, -⟩ := atShipment HQ.out.h5 item hr.1 hr.2
   have ea' : a5 = some ad := ea
   subst ea'
   have X0 := stays y0
   have X1 := stays y1
   have X2 := stays y2
   have T : Aside0 (thereB p ⟨true, item⟩ = true) := ⟨by rw [e1] at hth; exact hth⟩
   have r1 := hr.1
   have r2 := hr.2
   have E := Aside0.mk e1
   have HE := Aside0.mk (show _ ∧ _ from ⟨l2, g2⟩)
   clear y0 y1 y2 l2 g2 hr hth ht es e1 ea
   unfold PV.val
   go_enter Try.func37, Try.ntmps37
   go_wp2_with (first
    | (go_at_call 43; refine (refOf_any ⟨3, item⟩ _).mono ?_; rw [E.out]; rintro e w1 ⟨rfl, hb⟩; have HB1 := Aside0.mk hb; obtain ⟨qc1, qf1⟩ := bcell hb; have hs1 := hb.size; (try simp at hs1); (try have z01 : w.heap.size < w1.heap.size := (by omega)); (try have z11 : w.heap.size + 1 < w1.heap.size := (by omega)); (try have z21 : w.heap.size + 1 + 1 < w1.heap.size := (by omega)); (try have z31 : w.heap.size + 1 + 1 + 1 < w1.heap.size := (by omega)); (try have z41 : w.heap.size + 1 + 1 + 1 + 1 < w1.heap.size := (by omega)); clear hs1 hb; skip)
    | (go_at_call 44; refine (refThere_any ⟨a1, c1, a2, c2, a3, c3, a4, c4, some ad, c5⟩ p ⟨true, item⟩ _ HL.out).mono ?_; rw [T.out]; rintro e w2 ⟨rfl, hb⟩; have HB2 := Aside0.mk hb; obtain ⟨qc2, qf2⟩ := bcell hb; have hs2 := hb.size; (try simp at hs2); (try have z02 : w.heap.size < w2.heap.size := (by omega)); (try have z12 : w.heap.size + 1 < w2.heap.size := (by omega)); (try have z22 : w.heap.size + 1 + 1 < w2.heap.size := (by omega)); (try have z32 : w.heap.size + 1 + 1 + 1 < w2.heap.size := (by omega)); (try have z42 : w.heap.size + 1 + 1 + 1 + 1 < w2.heap.size := (by omega)); clear hs2 hb; have g0 := X0.out w2 clb; have g1 := X1.out w2 clb; have g2 := X2.out w2 clb))
   exact bodyPost_ret (v := .tuple #[.agg #[.int .i64 ((rdShipment p.Shipments item).Delivery).Place, .int .i64 ((rdShipment p.Shipments item).Delivery).Service, .slice A2 ((rdShipment p.Shipments item).Delivery).Windows.length c2_], .bool true]) (by simp [results, Try.results37, go_sem, *]) rfl ⟨_, _, rfl, HE.out.1, Kd.C_below HE.out.2 clb, clb⟩
  rw [taskOf_none h1 h2 h3] at ht
  cases ht
end Go.Proofs.Ytemjpgmfignhnaa

/- Contracts of the functions that tell a task's priority and skills.
Conditions: lists no longer than memory allows. -/
namespace Go.Proofs.Ytemjpgmfignhnaa
open Go.RowKit Go.Proofs.YtemjpgmfignhnaaW.PrintWords Go.Proofs.YtemjpgmfignhnaaW.PrintLast Go.Proofs.YtemjpgmfignhnaaW.PrintMore
set_option linter.unusedVariables false
set_option linter.unusedSimpArgs false
/-- A task's priority and skills. -/
def factsS (p : TProblem) (t : TTask) : Int × Int := if thereB p t = true then (if t.Ship = true then ((rdShipment p.Shipments t.Item).Priority, (rdShipment p.Shipments t.Item).Skills) else ((rdJob p.Jobs t.Item).Priority, (rdJob p.Jobs t.Item).Skills)) else (0, 0)
set_option maxHeartbeats 4000000 in
set_option maxRecDepth 100000 in
theorem refFacts_any (q : PV) (p : TProblem) (t : TTask) (w : World) (hl : Lens p) (hq : q.Ok p w) :
  Calls Try.prog 42 #[q.val p, .agg #[.bool t.Ship, .int .i64 t.Item]] w fun e w' => e = .returned (.tuple #[.int .i64 (factsS p t).1, .int .u64 (factsS p t).2]) ∧ Below w.heap.size w w' := by
 have HL := Aside0.mk hl
 have HQ := Aside0.mk hq
 clear hl hq
 obtain ⟨ship, item⟩ := t
 obtain ⟨a1, c1, a2, c2, a3, c3, a4, c4, a5, c5⟩ := q
 cases hth : thereB p ⟨ship, item⟩ with
 | false =>
  have T := Aside0.mk hth
  simp only [factsS, hth]
  clear hth
  unfold PV.val
  cases ship
  all_goals
   go_enter Try.func42, Try.ntmps42
   go_wp2_with (go_at_call 44; refine (refThere_any ⟨a1, c1, a2, c2, a3, c3, a4, c4, a5, c5⟩ p ⟨_, item⟩ _ HL.out).mono ?_; rw [T.out]; rintro e w1 ⟨rfl, hb⟩; have HB1 := Aside0.mk hb; obtain ⟨qc1, qf1⟩ := bcell hb; have hs1 := hb.size; (try simp at hs1); (try have z01 : w.heap.size < w1.heap.size := (by omega)); (try have z11 : w.heap.size + 1 < w1.heap.size := (by omega)); (try have z21 : w.heap.size + 1 + 1 < w1.heap.size := (by omega)); (try have z31 : w.heap.size + 1 + 1 + 1 < w1.heap.size := (by omega)); (try have z41 : w.heap.size + 1 + 1 + 1 + 1 < w1.heap.size := (by omega)); clear hs1 hb; skip)
   (first | go_ret2 | go_ret)
   exact ⟨rfl, clb⟩
 | true =>
  by_cases hs : ship = false
  ·subst hs
   have hr : 0 ≤ item ∧ item < p.Jobs.length := by
    have := upB_true (show upB item ((p.Jobs.length : Int) - 1) = true from hth)
    omega
   obtain ⟨ad, A2, c2_, A3, c3_, A4, c4_, ea, -, -, -, -, -, y0, y1, -, -, -, -, -, -⟩ := atJob HQ.out.h4 item hr.1 hr.2
   have ea' : a4 = some ad := ea
   subst ea'
   have X0 := stays y0
   have X1 := stays y1
   have T := Aside0.mk hth
   have r1 := hr.1
   have r2 := hr.2
   have e : thereB p ⟨false, item⟩ = true := hth
   simp only [factsS, e, if_true]
   clear y0 y1 hr hth ea e
   unfold PV.val
   go_enter Try.func42, Try.ntmps42
   go_wp2_with (go_at_call 44; refine (refThere_any ⟨a1, c1, a2, c2, a3, c3, some ad, c4, a5, c5⟩ p ⟨false, item⟩ _ HL.out).mono ?_; rw [T.out]; rintro e w1 ⟨rfl, hb⟩; have HB1 := Aside0.mk hb; obtain ⟨qc1, qf1⟩ := bcell hb; have hs1 := hb.size; (try simp at hs1); (try have z01 : w.heap.size < w1.heap.size := (by omega)); (try have z11 : w.heap.size + 1 < w1.heap.size := (by omega)); (try have z21 : w.heap.size + 1 + 1 < w1.heap.size := (by omega)); (try have z31 : w.heap.size + 1 + 1 + 1 < w1.heap.size := (by omega)); (try have z41 : w.heap.size + 1 + 1 + 1 + 1 < w1.heap.size := (by omega)); clear hs1 hb; have g0 := X0.out w1 clb; have g1 := X1.out w1 clb)
   try (go_quiet (fail); go_wp2)
   (first | go_ret2 | go_ret)
   exact ⟨rfl, clb⟩
  by_cases hs : ship = true
  ·subst hs
   have hr : 0 ≤ item ∧ item < p.Shipments.length := by
    have := upB_true (show upB item ((p.Shipments.length : Int) - 1) = true from hth)
    omega
   obtain ⟨ad, A2, c2_, A3, c3_, A4, c4_, ea, -, -, -, -, -, -, -, y0, y1, -, -, -, -, -, -⟩ := atShipment HQ.out.h5 item hr.1 hr.2
   have ea' : a5 = some ad := ea
   subst ea'
   have X0 := stays y0
   have X1 := stays y1
   have T := Aside0.mk hth
   have r1 := hr.1
   have r2 := hr.2
   have e : thereB p ⟨true, item⟩ = true := hth
   simp only [factsS, e, if_true]
   clear y0 y1 hr hth ea e
   unfold PV.val
   go_enter Try.func42, Try.ntmps42
   go_wp2_with (go_at_call 44; refine (refThere_any ⟨a1, c1, a2, c2, a3, c3, a4, c4, some ad, c5⟩ p ⟨true, item⟩ _ HL.out).mono ?_; rw [T.out]; rintro e w1 ⟨rfl, hb⟩; have HB1 := Aside0.mk hb; obtain ⟨qc1, qf1⟩ := bcell hb; have hs1 := hb.size; (try simp at hs1); (try have z01 : w.heap.size < w1.heap.size := (by omega)); (try have z11 : w.heap.size + 1 < w1.heap.size := (by omega)); (try have z21 : w.heap.size + 1 + 1 < w1.heap.size := (by omega)); (try have z31 : w.heap.size + 1 + 1 + 1 < w1.heap.size := (by omega)); (try have z41 : w.heap.size + 1 + 1 + 1 + 1 < w1.heap.size := (by omega)); clear hs1 hb; have g0 := X0.out w1 clb; have g1 := X1.out w1 clb)
   try (go_quiet (fail); go_wp2)
   (first | go_ret2 | go_ret)
   exact ⟨rfl, clb⟩
  cases ship <;> simp_all
set_option maxHeartbeats 4000000 in
set_option maxRecDepth 100000 in
theorem skills_any (q : PV) (p : TProblem) (t : TTask) (w : World) (hl : Lens p) (hq : q.Ok p w) :
  Calls Try.prog 45 #[q.val p, .agg #[.bool t.Ship, .int .i64 t.Item]] w fun e w' => e = .returned (.int .u64 (factsS p t).2) ∧ Below w.heap.size w w' := by
 have HL := Aside0.mk hl
 have HQ := Aside0.mk hq
 clear hl hq
 obtain ⟨ship, item⟩ := t
 obtain ⟨a1, c1, a2, c2, a3, c3, a4, c4, a5, c5⟩ := q
 cases hth : thereB p ⟨ship, item⟩ with
 | false =>
  have T := Aside0.mk hth
  simp only [factsS, hth]
  clear hth
  unfold PV.val
  cases ship
  all_goals
   go_enter Try.func45, Try.ntmps45
   go_wp2_with (go_at_call 33; refine (there_any ⟨a1, c1, a2, c2, a3, c3, a4, c4, a5, c5⟩ p ⟨_, item⟩ _ HL.out).mono ?_; rw [T.out]; rintro e w1 ⟨rfl, hb⟩; have HB1 := Aside0.mk hb; obtain ⟨qc1, qf1⟩ := bcell hb; have hs1 := hb.size; (try simp at hs1); (try have z01 : w.heap.size < w1.heap.size := (by omega)); (try have z11 : w.heap.size + 1 < w1.heap.size := (by omega)); (try have z21 : w.heap.size + 1 + 1 < w1.heap.size := (by omega)); (try have z31 : w.heap.size + 1 + 1 + 1 < w1.heap.size := (by omega)); (try have z41 : w.heap.size + 1 + 1 + 1 + 1 < w1.heap.size := (by omega)); clear hs1 hb; skip)
   (first | go_ret2 | go_ret)
   exact ⟨rfl, clb⟩
 | true =>
  by_cases hs : ship = false
  ·subst hs
   have hr : 0 ≤ item ∧ item < p.Jobs.length := by
    have := upB_true (show upB item ((p.Jobs.length : Int) - 1) = true from hth)
    omega
   obtain ⟨ad, A2, c2_, A3, c3_, A4, c4_, ea, -, -, -, -, -, y0, y1, -, -, -, -, -, -⟩ := atJob HQ.out.h4 item hr.1 hr.2
   have ea' : a4 = some ad := ea
   subst ea'
   have X0 := stays y0
   have X1 := stays y1
   have T := Aside0.mk hth
   have r1 := hr.1
   have r2 := hr.2
   have e : thereB p ⟨false, item⟩ = true := hth
   simp only [factsS, e, if_true]
   clear y0 y1 hr hth ea e
   unfold PV.val
   go_enter Try.func45, Try.ntmps45
   go_wp2_with (go_at_call 33; refine (there_any ⟨a1, c1, a2, c2, a3, c3, some ad, c4, a5, c5⟩ p ⟨false, item⟩ _ HL.out).mono ?_; rw [T.out]; rintro e w1 ⟨rfl, hb⟩; have HB1 := Aside0.mk hb; obtain ⟨qc1, qf1⟩ := bcell hb; have hs1 := hb.size; (try simp at hs1); (try have z01 : w.heap.size < w1.heap.size := (by omega)); (try have z11 : w.heap.size + 1 < w1.heap.size := (by omega)); (try have z21 : w.heap.size + 1 + 1 < w1.heap.size := (by omega)); (try have z31 : w.heap.size + 1 + 1 + 1 < w1.heap.size := (by omega)); (try have z41 : w.heap.size + 1 + 1 + 1 + 1 < w1.heap.size := (by omega)); clear hs1 hb; have g0 := X0.out w1 clb; have g1 := X1.out w1 clb)
   try (go_quiet (fail); go_wp2)
   (first | go_ret2 | go_ret)
   exact ⟨rfl, clb⟩
  by_cases hs : ship = true
  ·subst hs
   have hr : 0 ≤ item ∧ item < p.Shipments.length := by
    have := upB_true (show upB item ((p.Shipments.length : Int) - 1) = true from hth)
    omega
   obtain ⟨ad, A2, c2_, A3, c3_, A4, c4_, ea, -, -, -, -, -, -, -, y0, y1, -, -, -, -, -, -⟩ := atShipment HQ.out.h5 item hr.1 hr.2
   have ea' : a5 = some ad := ea
   subst ea'
   have X0 := stays y0
   have X1 := stays y1
   have T := Aside0.mk hth
   have r1 := hr.1
   have r2 := hr.2
   have e : thereB p ⟨true, item⟩ = true := hth
   simp only [factsS, e, if_true]
   clear y0 y1 hr hth ea e
   unfold PV.val
   go_enter Try.func45, Try.ntmps45
   go_wp2_with (go_at_call 33; refine (there_any ⟨a1, c1, a2, c2, a3, c3, a4, c4, some ad, c5⟩ p ⟨true, item⟩ _ HL.out).mono ?_; rw [T.out]; rintro e w1 ⟨rfl, hb⟩; have HB1 := Aside0.mk hb; obtain ⟨qc1, qf1⟩ := bcell hb; have hs1 := hb.size; (try simp at hs1); (try have z01 : w.heap.size < w1.heap.size := (by omega)); (try have z11 : w.heap.size + 1 < w1.heap.size := (by omega)); (try have z21 : w.heap.size + 1 + 1 < w1.heap.size := (by omega)); (try have z31 : w.heap.size + 1 + 1 + 1 < w1.heap.size := (by omega)); (try have z41 : w.heap.size + 1 + 1 + 1 + 1 < w1.heap.size := (by omega)); clear hs1 hb; have g0 := X0.out w1 clb; have g1 := X1.out w1 clb)
   try (go_quiet (fail); go_wp2)
   (first | go_ret2 | go_ret)
   exact ⟨rfl, clb⟩
  cases ship <;> simp_all
end Go.Proofs.Ytemjpgmfignhnaa

/- Contracts of the functions that read a matrix.
Conditions: the matrix is a lawful one. -/
namespace Go.Proofs.Ytemjpgmfignhnaa
open Go.RowKit Go.Proofs.YtemjpgmfignhnaaW.PrintWords Go.Proofs.YtemjpgmfignhnaaW.PrintLast Go.Proofs.YtemjpgmfignhnaaW.PrintMore
set_option linter.unusedVariables false
set_option linter.unusedSimpArgs false
/-- n times n numbers. -/
structure MatOk (m : TMatrix) : Prop where
 lo : 1 ≤ m.N
 hi : m.N ≤ 32
 len : (m.Cells.length : Int) = m.N * m.N
def cellS (m : TMatrix) (i j : Int) : Int := if upB i (m.N - 1) && upB j (m.N - 1) then rd m.Cells (i * m.N + j) else -1
theorem cell_in {n i j : Int} (hn : 1 ≤ n) (h0 : 0 ≤ i) (h1 : i ≤ n - 1) (h2 : 0 ≤ j) (h3 : j ≤ n - 1) (hn2 : n ≤ 32 := by omega) : 0 ≤ i * n ∧ i * n + j < n * n ∧ n * n ≤ 1024 := by
 have a := Int.mul_nonneg h0 (show 0 ≤ n by omega)
 have b := Int.mul_le_mul_of_nonneg_right h1 (show 0 ≤ n by omega)
 rw [Int.sub_mul, Int.one_mul] at b
 have c := Int.mul_le_mul hn2 hn2 (by omega) (by omega)
 omega
set_option maxHeartbeats 4000000 in
set_option maxRecDepth 100000 in
theorem refCell_any (m : TMatrix) (A : Option Addr) (c : Nat) (i j : Int) (w : World) (hm : MatOk m) (hr : Kd.C (Kd.int .i64) w A m.Cells.length m.Cells) :
  Calls Try.prog 31 #[.agg #[.int .i64 m.N, .slice A m.Cells.length c], .int .i64 i, .int .i64 j] w fun e w' => e = .returned (.int .i64 (cellS m i j)) ∧ Below w.heap.size w w' := by
 obtain ⟨n, cells⟩ := m
 have hn0 : 1 ≤ n := hm.lo
 have hn1 : n ≤ 32 := hm.hi
 have hlen : (cells.length : Int) = n * n := hm.len
 cases hi : upB i (n - 1) with
 | false =>
  have e : cellS ⟨n, cells⟩ i j = -1 := by simp [cellS, hi]
  rw [e]
  have T1 := Aside0.mk hi
  clear hi hm hr hlen e
  go_enter Try.func31, Try.ntmps31
  go_wp2_with (go_at_call 87; refine (up_any _ _ _).mono ?_; (first | rw [T1.out] | rw [T2.out]); rintro e w' ⟨rfl, rfl⟩)
  go_ret
  exact ⟨rfl, clb⟩
 | true =>
  cases hj : upB j (n - 1) with
  | false =>
   have e : cellS ⟨n, cells⟩ i j = -1 := by simp [cellS, hj]
   rw [e]
   have T1 := Aside0.mk hi
   have T2 := Aside0.mk hj
   clear hi hj hm hr hlen e
   go_enter Try.func31, Try.ntmps31
   go_wp2_with (go_at_call 87; refine (up_any _ _ _).mono ?_; (first | rw [T1.out] | rw [T2.out]); rintro e w' ⟨rfl, rfl⟩)
   go_ret
   exact ⟨rfl, clb⟩
  | true =>
   have e : cellS ⟨n, cells⟩ i j = rd cells (i * n + j) := by simp [cellS, hi, hj]
   rw [e]
   have T1 := Aside0.mk hi
   have T2 := Aside0.mk hj
   have b1 := upB_true hi
   have b2 := upB_true hj
   obtain ⟨m0, m1, m2⟩ := cell_in hn0 b1.1 b1.2 b2.1 b2.2
   have m3 : i * n + j < (cells.length : Int) := by omega
   have m4 : 0 ≤ i * n + j := by omega
   have m5 : i * n ≤ 1024 := by omega
   obtain ⟨ad, ea, x0⟩ := Kd.at_int hr (i * n + j) m4 m3
   subst ea
   have X0 := stays x0
   obtain ⟨b11, b12⟩ := b1
   obtain ⟨b21, b22⟩ := b2
   have g0 := fun o => alloc_cell x0 o
   clear hi hj hm hr hlen e x0 m1
   go_enter Try.func31, Try.ntmps31
   go_wp2_with (go_at_call 87; refine (up_any _ _ _).mono ?_; (first | rw [T1.out] | rw [T2.out]); rintro e w' ⟨rfl, rfl⟩)
   go_ret
   exact ⟨rfl, clb⟩
set_option maxHeartbeats 4000000 in
set_option maxRecDepth 100000 in
theorem cell_any (m : TMatrix) (A : Option Addr) (c : Nat) (i j : Int) (w : World) (hm : MatOk m) (hr : Kd.C (Kd.int .i64) w A m.Cells.length m.Cells) :
  Calls Try.prog 30 #[.agg #[.int .i64 m.N, .slice A m.Cells.length c], .int .i64 i, .int .i64 j] w fun e w' => e = .returned (.int .i64 (cellS m i j)) ∧ Below w.heap.size w w' := by
 obtain ⟨n, cells⟩ := m
 have hn0 : 1 ≤ n := hm.lo
 have hn1 : n ≤ 32 := hm.hi
 have hlen : (cells.length : Int) = n * n := hm.len
 rcases (show i < 0 ∨ (0 ≤ i ∧ j < 0) ∨ (0 ≤ i ∧ 0 ≤ j ∧ n ≤ i) ∨ (0 ≤ i ∧ 0 ≤ j ∧ i < n ∧ n ≤ j) ∨ (0 ≤ i ∧ 0 ≤ j ∧ i < n ∧ j < n) by omega) with h1 | ⟨h1, h2⟩ | ⟨h1, h2, h3⟩ | ⟨h1, h2, h3, h4⟩ | ⟨h1, h2, h3, h4⟩
 · have e : cellS ⟨n, cells⟩ i j = -1 := by
    have : (upB i (n - 1) && upB j (n - 1)) = false := by
     rw [Bool.eq_false_iff]
     intro h
     simp only [Bool.and_eq_true] at h
     have a := upB_true h.1
     have b := upB_true h.2
     omega
    simp [cellS, this]
   rw [e]
   clear e hm hr hlen
   go_enter Try.func30, Try.ntmps30
   go_wp2
   go_ret
   exact ⟨rfl, clb⟩
 · have e : cellS ⟨n, cells⟩ i j = -1 := by
    have : (upB i (n - 1) && upB j (n - 1)) = false := by
     rw [Bool.eq_false_iff]
     intro h
     simp only [Bool.and_eq_true] at h
     have a := upB_true h.1
     have b := upB_true h.2
     omega
    simp [cellS, this]
   rw [e]
   clear e hm hr hlen
   go_enter Try.func30, Try.ntmps30
   go_wp2
   go_ret
   exact ⟨rfl, clb⟩
 · have e : cellS ⟨n, cells⟩ i j = -1 := by
    have : (upB i (n - 1) && upB j (n - 1)) = false := by
     rw [Bool.eq_false_iff]
     intro h
     simp only [Bool.and_eq_true] at h
     have a := upB_true h.1
     have b := upB_true h.2
     omega
    simp [cellS, this]
   rw [e]
   clear e hm hr hlen
   go_enter Try.func30, Try.ntmps30
   go_wp2
   go_ret
   exact ⟨rfl, clb⟩
 · have e : cellS ⟨n, cells⟩ i j = -1 := by
    have : (upB i (n - 1) && upB j (n - 1)) = false := by
     rw [Bool.eq_false_iff]
     intro h
     simp only [Bool.and_eq_true] at h
     have a := upB_true h.1
     have b := upB_true h.2
     omega
    simp [cellS, this]
   rw [e]
   clear e hm hr hlen
   go_enter Try.func30, Try.ntmps30
   go_wp2
   go_ret
   exact ⟨rfl, clb⟩
 ·have e : cellS ⟨n, cells⟩ i j = rd cells (i * n + j) := by simp [cellS, upB_mk h1 (show i ≤ n - 1 by omega), upB_mk h2 (show j ≤ n - 1 by omega)]
  rw [e]
  obtain ⟨m0, m1, m2⟩ := cell_in hn0 h1 (show i ≤ n - 1 by omega) h2 (by omega)
  have m3 : i * n + j < (cells.length : Int) := by omega
  have m4 : 0 ≤ i * n + j := by omega
  have m5 : i * n ≤ 1024 := by omega
  obtain ⟨ad, ea, x0⟩ := Kd.at_int hr (i * n + j) m4 m3
  subst ea
  have g0 := fun o => alloc_cell x0 o
  clear hm hr hlen e x0 m1
  go_enter Try.func30, Try.ntmps30
  go_wp2
  go_ret
  exact ⟨rfl, clb⟩
end Go.Proofs.Ytemjpgmfignhnaa

/- Contracts of the functions about windows and amounts.
Conditions: lists no longer than memory allows. -/
namespace Go.Proofs.Ytemjpgmfignhnaa
open Go.RowKit Go.Proofs.YtemjpgmfignhnaaW.PrintWords Go.Proofs.YtemjpgmfignhnaaW.PrintLast Go.Proofs.YtemjpgmfignhnaaW.PrintMore
set_option linter.unusedVariables false
set_option linter.unusedSimpArgs false
attribute [local go_sem] cell_growBy Option.some_or
theorem not_or4 {a b c d : Prop} (ha : ¬ a) (hb : ¬ b) (hc : ¬ c) (hd : ¬ d) : ¬ (a ∨ b ∨ c ∨ d) := fun h => h.elim ha fun h => h.elim hb fun h => h.elim hc hd
/-- What is wrong with windows from place i on; lo: where the one ahead ends. -/
def winS : Int → Int → List TWindow → Int × Int
 | _, _, [] => (-1, 0)
 | i, lo, w :: l => if w.From < 0 ∨ w.To > 1000000 ∨ w.From > w.To ∨ w.From ≤ lo then (i, 2) else winS (i + 1) w.To l
def windowsS (l : List TWindow) : Int × Int := if l.length < 1 ∨ l.length > 4 then (-1, 43) else winS 0 (-1) l
def loAt (l : List TWindow) (k : Nat) : Int := if k = 0 then -1 else (l.getD (k - 1) zWindow).To
theorem loAt_succ (l : List TWindow) (k : Nat) (h : k < l.length) : loAt l (k + 1) = l[k].To := by simp [loAt, List.getElem?_eq_getElem h]
theorem winS_at (l : List TWindow) (k : Nat) (h : k < l.length) : winS k (loAt l k) (l.drop k) = if l[k].From < 0 ∨ l[k].To > 1000000 ∨ l[k].From > l[k].To ∨ l[k].From ≤ loAt l k then ((k : Int), 2) else winS ((k + 1 : Nat) : Int) (loAt l (k + 1)) (l.drop (k + 1)) := by
 rw [List.drop_eq_getElem_cons h, winS, loAt_succ l k h]
 rfl
set_option maxHeartbeats 4000000 in
set_option maxRecDepth 100000 in
theorem refWindows_any (l : List TWindow) (A : Option Addr) (c : Nat) (w : World) (hr : Kd.C kWindow w A l.length l) (hn : l.length ≤ 4611686018427387904) :
  Calls Try.prog 130 #[.slice A l.length c] w fun e w' => e = .returned (.tuple #[.int .i64 (windowsS l).1, .int .i64 (windowsS l).2]) ∧ Below w.heap.size w w' := by
 have HR := Aside0.mk hr
 clear hr
 by_cases h4 : l.length < 1
 ·have e : windowsS l = (-1, 43) := by simp [windowsS, h4]
  rw [e]
  clear e
  go_enter Try.func130, Try.ntmps130
  go_wp2
  go_ret2
  exact ⟨rfl, clb⟩
 by_cases h5 : 4 < l.length
 ·have e : windowsS l = (-1, 43) := by simp [windowsS, h5]
  rw [e]
  clear e
  go_enter Try.func130, Try.ntmps130
  go_wp2
  go_ret2
  exact ⟨rfl, clb⟩
 have h6 : 1 ≤ l.length := by omega
 have h7 : l.length ≤ 4 := by omega
 have e : windowsS l = winS 0 (-1) l := by rw [windowsS, if_neg (by omega)]
 rw [e]
 generalize hq : winS 0 (-1) l = q
 have HQ : Aside0 (winS ((0 : Nat) : Int) (loAt l 0) (l.drop 0) = q) := ⟨hq⟩
 clear hq e h4 h5
 go_enter Try.func130, Try.ntmps130
 go_wp2
 go_loopw [4] (fun i wr => ∃ k : Nat, k ≤ l.length ∧ i = .int .i64 k ∧ Aside0 (winS k (loAt l k) (l.drop k) = q) ∧ Aside0 (Below w.heap.size w wr)) (fun i _ => l.length - (intOf i).toNat)
 case atStart => exact ⟨0, Nat.zero_le _, rfl, HQ, ⟨Below.refl _ _⟩⟩
 case round =>
  clear HQ
  obtain ⟨k, hk, rfl, HS, HB1⟩ := hrel
  by_cases hlt : k < l.length
  ·have HN := Aside0.mk (winS_at l k hlt)
   obtain ⟨ad, ea, x0, x1⟩ := atNWindow (Kd.C_below HR.out HB1.out) k hlt
   have g0 := fun o => alloc_cell x0 o
   have g1 := fun o => alloc_cell x1 o
   subst ea
   have r0 : (0 : Int) ≤ (k : Int) := by omega
   have r1 : (k : Int) < (l.length : Int) := by omega
   by_cases t1 : l[k].From < 0
   ·have d1 : decide (l[k].From < 0) = true := decide_eq_true t1
    have e := HN.out
    rw [HS.out, if_pos (.inl t1)] at e
    subst e
    clear t1 HN HS
    go_wp2
    (try (go_quiet (fail); go_wp2)); (try (go_quiet (fail); go_wp2))
    go_ret2
    exact ⟨rfl, clb⟩
   have d1 : decide (l[k].From < 0) = false := decide_eq_false t1
   by_cases t2 : 1000000 < l[k].To
   ·have d2 : decide (1000000 < l[k].To) = true := decide_eq_true t2
    have e := HN.out
    rw [HS.out, if_pos (.inr (.inl t2))] at e
    subst e
    clear t2 HN HS
    go_wp2
    (try (go_quiet (fail); go_wp2)); (try (go_quiet (fail); go_wp2))
    go_ret2
    exact ⟨rfl, clb⟩
   have d2 : decide (1000000 < l[k].To) = false := decide_eq_false t2
   by_cases t3 : l[k].To < l[k].From
   ·have d3 : decide (l[k].To < l[k].From) = true := decide_eq_true t3
    have e := HN.out
    rw [HS.out, if_pos (.inr (.inr (.inl t3)))] at e
    subst e
    clear t3 HN HS
    go_wp2
    (try (go_quiet (fail); go_wp2)); (try (go_quiet (fail); go_wp2))
    go_ret2
    exact ⟨rfl, clb⟩
   have d3 : decide (l[k].To < l[k].From) = false := decide_eq_false t3
   rcases Nat.eq_zero_or_pos k with hk0 | hk0
   ·have e := HN.out
    rw [HS.out] at e
    by_cases t4 : l[k].From ≤ loAt l k
    ·exfalso
     simp only [hk0, loAt, if_true] at t4
     subst hk0
     omega
    rw [if_neg (not_or4 t1 t2 t3 t4)] at e
    have HN := Aside0.mk e.symm
    have d5 : decide ((0 : Int) < (k : Int)) = false := decide_eq_false (by omega)
    have d6 : decide (0 < k) = false := decide_eq_false (by omega)
    clear t1 t2 t3 t4 e HS hk0
    go_wp2
    (try (go_quiet (fail); go_wp2)); (try (go_quiet (fail); go_wp2))
    all_goals
     go_roundw
     case rel => exact ⟨k + 1, by omega, by go_num, HN, ⟨clb⟩⟩
     case measure => simp [intOf]; omega
   ·obtain ⟨j, rfl⟩ : ∃ j, k = j + 1 := ⟨k - 1, by omega⟩
    obtain ⟨ad', ea', y0, y1⟩ := atNWindow (Kd.C_below HR.out HB1.out) j (by omega)
    injection ea' with ea'
    subst ea'
    have k1 := fun o => alloc_cell y1 o
    have el : loAt l (j + 1) = l[j].To := loAt_succ l j (by omega)
    rw [el] at HN HS
    clear el y0
    by_cases t4 : l[j + 1].From ≤ l[j].To
    ·have d4 : decide (l[j + 1].From ≤ l[j].To) = true := decide_eq_true t4
     have e := HN.out
     rw [HS.out, if_pos (.inr (.inr (.inr t4)))] at e
     subst e
     clear t4 HN HS
     go_wp2
     (try (go_quiet (fail); go_wp2)); (try (go_quiet (fail); go_wp2))
     go_ret2
     exact ⟨rfl, clb⟩
    ·have d4 : decide (l[j + 1].From ≤ l[j].To) = false := decide_eq_false t4
     have e := HN.out
     rw [HS.out, if_neg (not_or4 t1 t2 t3 t4)] at e
     have HN := Aside0.mk e.symm
     clear t1 t2 t3 t4 e HS
     go_wp2
     (try (go_quiet (fail); go_wp2)); (try (go_quiet (fail); go_wp2))
     all_goals
      go_roundw
      case rel => exact ⟨j + 1 + 1, by omega, by go_num, HN, ⟨clb⟩⟩
      case measure => simp [intOf]; omega
  ·have e := HS.out
   rw [List.drop_of_length_le (by omega), winS] at e
   subst e
   clear HS
   go_wp2
   go_ret2
   exact ⟨rfl, clb⟩
end Go.Proofs.Ytemjpgmfignhnaa

/- Contracts of the functions that look whether a matrix is a lawful one.
Conditions: it has 1 to 32 places. -/
namespace Go.Proofs.Ytemjpgmfignhnaa
open Go.RowKit Go.Proofs.YtemjpgmfignhnaaW.PrintWords Go.Proofs.YtemjpgmfignhnaaW.PrintLast Go.Proofs.YtemjpgmfignhnaaW.PrintMore
set_option linter.unusedVariables false
set_option linter.unusedSimpArgs false
def okCell (n : Int) (t : Nat) (c : Int) : Bool := !(decide (c < -1) || decide (c > 32000000) || decide ((t : Int) % (n + 1) = 0) && !decide (c = 0))
def cellsOk (n : Int) : Nat → List Int → Bool
 | _, [] => true
 | t, c :: l => okCell n t c && cellsOk n (t + 1) l
def matrixB (m : TMatrix) (n : Int) : Bool := decide (m.N = n) && decide ((m.Cells.length : Int) = n * n) && cellsOk n 0 m.Cells
theorem cellsOk_at (n : Int) (l : List Int) (t : Nat) (h : t < l.length) : cellsOk n t (l.drop t) = (okCell n t l[t] && cellsOk n (t + 1) (l.drop (t + 1))) := by
 rw [List.drop_eq_getElem_cons h, cellsOk]
theorem diag {n i k : Int} (h0 : 0 ≤ i) (h1 : i < n) (h2 : 0 ≤ k) (h3 : k < n) : ((i * n + k) % (n + 1) = 0) ↔ i = k := by
 have e : i * n + k = (k - i) + i * (n + 1) := by rw [Int.mul_add]; omega
 rw [e, Int.add_mul_emod_self_right]
 constructor
 ·intro h
  rcases Int.lt_or_le k i with hlt | hle
  ·have : (k - i) % (n + 1) = k - i + (n + 1) := by
    rw [← Int.add_emod_right]
    exact Int.emod_eq_of_lt (by omega) (by omega)
   omega
  ·rw [Int.emod_eq_of_lt (by omega) (by omega)] at h
   omega
 ·rintro rfl
  simp
set_option maxHeartbeats 4000000 in
set_option maxRecDepth 100000 in
theorem refMatrix_any (m : TMatrix) (A : Option Addr) (c : Nat) (n : Int) (w : World) (h0 : 1 ≤ n) (h1 : n ≤ 32) (hl : m.Cells.length ≤ 4611686018427387904) (hr : Kd.C (Kd.int .i64) w A m.Cells.length m.Cells) :
  Calls Try.prog 88 #[.agg #[.int .i64 m.N, .slice A m.Cells.length c], .int .i64 n] w fun e w' => e = .returned (.bool (matrixB m n)) ∧ Below w.heap.size w w' := by
 obtain ⟨N, cells⟩ := m
 have hn : 0 ≤ n * n := Int.mul_nonneg (by omega) (by omega)
 have hn2 : n * n ≤ 1024 := by
  have := Int.mul_le_mul h1 h1 (by omega) (by omega)
  omega
 by_cases e1 : N = n
 ·subst e1
  by_cases e2 : (cells.length : Int) = N * N
  ·have d1 : (N == N) = true := by simp
   have d2 : ((cells.length : Int) != N * N) = false := by rw [e2]; simp
   have E2 := Aside0.mk e2
   clear e2
   have es : matrixB ⟨N, cells⟩ N = cellsOk N 0 cells := by simp [matrixB, E2.out]
   rw [es]
   generalize hq : cellsOk N 0 cells = r
   have HQ : Aside0 (cellsOk N ((0 : Int) * N).toNat (cells.drop ((0 : Int) * N).toNat) = r) := ⟨by simpa using hq⟩
   have HR := Aside0.mk hr
   clear es hq hr
   go_enter Try.func88, Try.ntmps88
   go_wp2
   go_loop [5] (fun v => ∃ i : Int, 0 ≤ i ∧ i ≤ N ∧ v = .int .i64 i ∧ Aside0 (cellsOk N (i * N).toNat (cells.drop (i * N).toNat) = r)) (fun v => (N - intOf v).toNat)
   case atStart => exact ⟨0, by omega, by omega, rfl, HQ⟩
   case round =>
    clear HQ
    obtain ⟨i, i0, i1, rfl, HS⟩ := hrel
    by_cases hlt : i < N
    ·go_wp2
     have HI : Aside0 (cellsOk N (i * N + 0).toNat (cells.drop (i * N + 0).toNat) = r) := ⟨by simpa using HS.out⟩
     clear HS
     go_loop [6] (fun v => ∃ k : Int, 0 ≤ k ∧ k ≤ N ∧ v = .int .i64 k ∧ Aside0 (cellsOk N (i * N + k).toNat (cells.drop (i * N + k).toNat) = r)) (fun v => (N - intOf v).toNat)
     case atStart => exact ⟨0, by omega, by omega, rfl, HI⟩
     case round =>
      clear HI
      obtain ⟨k, k0, k1, rfl, HS⟩ := hrel
      by_cases hk : k < N
      ·obtain ⟨m0, m1, m2⟩ := cell_in h0 i0 (show i ≤ N - 1 by omega) k0 (show k ≤ N - 1 by omega)
       have m3 : i * N + k < (cells.length : Int) := by rw [E2.out]; exact m1
       have m4 : 0 ≤ i * N + k := by omega
       have m5 : i * N ≤ 1024 := by omega
       obtain ⟨ad, ea, x0⟩ := Kd.at_int HR.out (i * N + k) m4 m3
       have g0 := fun o => alloc_cell x0 o
       subst ea
       have hcl : rd cells (i * N + k) = cells[(i * N + k).toNat]'(by omega) := by
        simp [rd, List.getElem?_eq_getElem (show (i * N + k).toNat < cells.length by omega)]
       have hat := cellsOk_at N cells (i * N + k).toNat (by omega)
       rw [HS.out, ← hcl, okCell, show (((i * N + k).toNat : Nat) : Int) = i * N + k from by omega] at hat
       have hdg := diag i0 hlt k0 hk
       generalize rd cells (i * N + k) = c at *
       have hnx : (i * N + k).toNat + 1 = (i * N + (k + 1)).toNat := by omega
       rw [hnx] at hat
       clear hnx hcl m1 x0
       by_cases t1 : c < -1
       ·have er : r = false := by simpa [t1] using hat
        subst er
        have d1 : decide (c < -1) = true := decide_eq_true t1
        clear t1 hat hdg HS
        go_wp2
        go_ret
        exact ⟨rfl, clb⟩
       by_cases t2 : 32000000 < c
       ·have er : r = false := by simpa [t2] using hat
        subst er
        have d1 : decide (c < -1) = false := decide_eq_false t1
        have d2 : decide (32000000 < c) = true := decide_eq_true t2
        clear t1 t2 hat hdg HS
        go_wp2
        go_ret
        exact ⟨rfl, clb⟩
       have d1 : decide (c < -1) = false := decide_eq_false t1
       have d2 : decide (32000000 < c) = false := decide_eq_false t2
       by_cases t3 : i = k
       ·by_cases t4 : c = 0
        ·have er := hat
         simp [t4] at er
         have HN := Aside0.mk er.symm
         subst t3
         subst t4
         clear t1 t2 hat hdg HS er d1 d2
         go_wp2
         go_round
         case rel => exact ⟨_, by omega, by omega, rfl, HN⟩
         case measure => simp [intOf]; omega
        ·have er : r = false := by simpa [hdg.2 t3, t4] using hat
         subst er
         subst t3
         have d4 : (c != 0) = true := by simp [t4]
         have d5 : (c == 0) = false := by simp [t4]
         clear t1 t2 hat hdg HS t4
         go_wp2
         go_ret
         exact ⟨rfl, clb⟩
       ·have d3 : (i == k) = false := by simp [t3]
        have t5 : ¬ ((i * N + k) % (N + 1) = 0) := fun h => t3 (hdg.1 h)
        have er := hat
        simp [t1, t2, t5] at er
        have HN := Aside0.mk er.symm
        clear t1 t2 hat hdg HS er t3 t5
        go_wp2
        go_round
        case rel => exact ⟨_, by omega, by omega, rfl, HN⟩
        case measure => simp [intOf]; omega
      ·obtain rfl : k = N := by omega
       go_wp2
       go_round
       case rel => exact ⟨i + 1, by omega, by omega, by go_num, ⟨by rw [Int.add_mul, Int.one_mul]; exact HS.out⟩⟩
       case measure => simp [intOf]; omega
    ·obtain rfl : i = N := by omega
     have er := HS.out
     rw [List.drop_of_length_le (by have := E2.out; omega), cellsOk] at er
     subst er
     clear HS
     go_wp2
     go_ret
     exact ⟨rfl, clb⟩
  ·have d2 : ((cells.length : Int) != N * N) = true := by simp [e2]
   have es : matrixB ⟨N, cells⟩ N = false := by simp [matrixB, e2]
   rw [es]
   clear es e2
   go_enter Try.func88, Try.ntmps88
   go_wp2
   go_ret
   exact ⟨rfl, clb⟩
 ·have d1 : (N != n) = true := by simp [e1]
  have d2 : (N == n) = false := by simp [e1]
  have es : matrixB ⟨N, cells⟩ n = false := by simp [matrixB, e1]
  rw [es]
  clear es e1
  go_enter Try.func88, Try.ntmps88
  go_wp2
  go_ret
  exact ⟨rfl, clb⟩
end Go.Proofs.Ytemjpgmfignhnaa

/- Contracts: the program's own look at a matrix; amounts, skills and windows of a stop.
Conditions: lists no longer than memory allows. -/
namespace Go.Proofs.Ytemjpgmfignhnaa
open Go.RowKit Go.Proofs.YtemjpgmfignhnaaW.PrintWords Go.Proofs.YtemjpgmfignhnaaW.PrintLast Go.Proofs.YtemjpgmfignhnaaW.PrintMore
set_option linter.unusedVariables false
set_option linter.unusedSimpArgs false
attribute [local go_sem] cell_growBy Option.some_or
/-- Are these windows lawful? -/
def windowsB (l : List TWindow) : Bool := decide ((windowsS l).2 = 0)
set_option maxHeartbeats 4000000 in
set_option maxRecDepth 100000 in
theorem windows_any (l : List TWindow) (A : Option Addr) (c : Nat) (w : World) (hr : Kd.C kWindow w A l.length l) (hn : l.length ≤ 4611686018427387904) :
  Calls Try.prog 117 #[.slice A l.length c] w fun e w' => e = .returned (.bool (windowsB l)) ∧ Below w.heap.size w w' := by
 have HC := Aside0.mk (fun W (hb : Below w.heap.size w W) => refWindows_any l A c W (Kd.C_below hr hb) hn)
 clear hr
 cases hb : windowsB l
 all_goals
  have e : ((windowsS l).2 == 0) = windowsB l := by unfold windowsB; rfl
  rw [hb] at e
  clear hb
  go_enter Try.func117, Try.ntmps117
  go_wp2_with (go_at_call 130; refine (HC.out _ clb).mono ?_; skip; rintro e w1 ⟨rfl, hb⟩; have HB1 := Aside0.mk hb; obtain ⟨qc1, qf1⟩ := bcell hb; have hs1 := hb.size; (try simp at hs1); (try have z01 : w.heap.size < w1.heap.size := (by omega)); (try have z11 : w.heap.size + 1 < w1.heap.size := (by omega)); (try have z21 : w.heap.size + 1 + 1 < w1.heap.size := (by omega)); (try have z31 : w.heap.size + 1 + 1 + 1 < w1.heap.size := (by omega)); (try have z41 : w.heap.size + 1 + 1 + 1 + 1 < w1.heap.size := (by omega)); clear hs1 hb; skip)
  go_ret
  exact ⟨rfl, clb⟩
/-- n amounts of 0 to 1000000 each. -/
def amountsS (l : List Int) (n : Int) : Int := if (l.length : Int) = n then (if l.all (fun x => decide (0 ≤ x) && decide (x ≤ 1000000)) then 0 else 2) else 43
def amsGo (l : List Int) : Int := if l.all (fun x => decide (0 ≤ x) && decide (x ≤ 1000000)) then 0 else 2
theorem amsGo_cons (x : Int) (l : List Int) : amsGo (x :: l) = if x < 0 ∨ 1000000 < x then 2 else amsGo l := by
 unfold amsGo
 rw [List.all_cons]
 by_cases h : x < 0 ∨ 1000000 < x
 ·rw [if_pos h]
  have : (decide (0 ≤ x) && decide (x ≤ 1000000)) = false := by simp; omega
  rw [this]
  rfl
 ·rw [if_neg h]
  have : (decide (0 ≤ x) && decide (x ≤ 1000000)) = true := by simp; omega
  rw [this, Bool.true_and]
set_option maxHeartbeats 4000000 in
set_option maxRecDepth 100000 in
theorem ref09Check_any (l : List Int) (A : Option Addr) (c : Nat) (n : Int) (w : World) (hr : Kd.C (Kd.int .i64) w A l.length l) (hn : l.length ≤ 4611686018427387904) :
  Calls Try.prog 91 #[.slice A l.length c, .int .i64 n] w fun e w' => e = .returned (.int .i64 (amountsS l n)) ∧ Below w.heap.size w w' := by
 have HR := Aside0.mk hr
 clear hr
 by_cases e1 : (l.length : Int) = n
 ·have d1 : ((l.length : Int) == n) = true := by simp [e1]
  have d2 : ((l.length : Int) != n) = false := by simp [e1]
  have e : amountsS l n = amsGo (l.drop 0) := by simp [amountsS, e1, amsGo]
  rw [e]
  generalize hq : amsGo (l.drop 0) = r
  have HQ := Aside0.mk hq
  clear hq e e1
  go_enter Try.func91, Try.ntmps91
  go_wp2
  go_loop [5] (fun v => ∃ t : Nat, t ≤ l.length ∧ v = .int .i64 t ∧ Aside0 (amsGo (l.drop t) = r)) (fun v => l.length - (intOf v).toNat)
  case atStart => exact ⟨0, Nat.zero_le _, rfl, HQ⟩
  case round =>
   clear HQ
   obtain ⟨t, ht, rfl, HS⟩ := hrel
   by_cases hlt : t < l.length
   ·obtain ⟨ad, ea, x0⟩ := Kd.at_int HR.out (t : Int) (by omega) (by omega)
    simp only [Int.toNat_natCast] at x0
    have g0 := fun o => alloc_cell x0 o
    subst ea
    have hat := HS.out
    rw [List.drop_eq_getElem_cons hlt, amsGo_cons] at hat
    have hcl : rd l (t : Int) = l[t] := by simp [rd, List.getElem?_eq_getElem hlt]
    rw [← hcl] at hat
    have m1 : (0 : Int) ≤ (t : Int) := by omega
    have m2 : (t : Int) < (l.length : Int) := by omega
    generalize rd l (t : Int) = c at *
    clear hcl
    by_cases t1 : c < 0
    ·rw [if_pos (.inl t1)] at hat
     subst hat
     have d1 : decide (c < 0) = true := decide_eq_true t1
     clear t1 HS
     go_wp2
     go_ret
     exact ⟨rfl, clb⟩
    by_cases t2 : 1000000 < c
    ·rw [if_pos (.inr t2)] at hat
     subst hat
     have d1 : decide (c < 0) = false := decide_eq_false t1
     have d2 : decide (1000000 < c) = true := decide_eq_true t2
     clear t1 t2 HS
     go_wp2
     go_ret
     exact ⟨rfl, clb⟩
    rw [if_neg (fun h => h.elim t1 t2)] at hat
    have HN := Aside0.mk hat
    have d1 : decide (c < 0) = false := decide_eq_false t1
    have d2 : decide (1000000 < c) = false := decide_eq_false t2
    clear t1 t2 HS hat
    go_wp2
    go_round
    case rel => exact ⟨t + 1, by omega, by go_num, HN⟩
    case measure => simp [intOf]; omega
   ·have er := HS.out
    rw [List.drop_of_length_le (by omega)] at er
    subst er
    clear HS
    go_wp2
    go_ret
    exact ⟨rfl, clb⟩
 ·have d2 : ((l.length : Int) != n) = true := by simp [e1]
  have e : amountsS l n = 43 := by simp [amountsS, e1]
  rw [e]
  clear e e1
  go_enter Try.func91, Try.ntmps91
  go_wp2
  go_ret
  exact ⟨rfl, clb⟩
end Go.Proofs.Ytemjpgmfignhnaa

/- Contracts: is a stop a lawful one?
Conditions: lists no longer than memory allows. -/
namespace Go.Proofs.Ytemjpgmfignhnaa
open Go.RowKit Go.Proofs.YtemjpgmfignhnaaW.PrintWords Go.Proofs.YtemjpgmfignhnaaW.PrintLast Go.Proofs.YtemjpgmfignhnaaW.PrintMore
set_option linter.unusedVariables false
set_option linter.unusedSimpArgs false
attribute [local go_sem] cell_growBy Option.some_or
def stopB (s : TStop) (n : Int) : Bool := upB s.Place (n - 1) && upB s.Service 1000000 && windowsB s.Windows
set_option maxHeartbeats 4000000 in
set_option maxRecDepth 100000 in
theorem refStopB_any (s : TStop) (A : Option Addr) (c : Nat) (n : Int) (w : World) (hr : Kd.C kWindow w A s.Windows.length s.Windows) (hn : s.Windows.length ≤ 4611686018427387904) (h0 : 1 ≤ n) (h1 : n ≤ 32) :
  Calls Try.prog 90 #[.agg #[.int .i64 s.Place, .int .i64 s.Service, .slice A s.Windows.length c], .int .i64 n] w fun e w' => e = .returned (.bool (stopB s n)) ∧ Below w.heap.size w w' := by
 obtain ⟨pl, sv, ws⟩ := s
 have HC := Aside0.mk (fun W (hb : Below w.heap.size w W) => windows_any ws A c W (Kd.C_below hr hb) hn)
 clear hr
 cases h1 : upB pl (n - 1)
 all_goals
  cases h2 : upB sv 1000000
  all_goals
   cases h3 : windowsB ws
   all_goals
    simp only [stopB, h1, h2, h3]
    have T1 := Aside0.mk h1
    have T2 := Aside0.mk h2
    have T3 := Aside0.mk h3
    have d : ((windowsS ws).2 == 0) = windowsB ws := by unfold windowsB; rfl
    rw [h3] at d
    clear h1 h2 h3
    go_enter Try.func90, Try.ntmps90
    go_wp2_with (first
     | (go_at_call 87; refine (up_any _ _ _).mono ?_; (first | rw [T1.out] | rw [T2.out]); rintro e w' ⟨rfl, rfl⟩)
     | (go_at_call 117; refine (HC.out _ clb).mono ?_; rw [T3.out]; rintro e w1 ⟨rfl, hb⟩; have HB1 := Aside0.mk hb; obtain ⟨qc1, qf1⟩ := bcell hb; have hs1 := hb.size; (try simp at hs1); (try have z01 : w.heap.size < w1.heap.size := (by omega)); (try have z11 : w.heap.size + 1 < w1.heap.size := (by omega)); (try have z21 : w.heap.size + 1 + 1 < w1.heap.size := (by omega)); (try have z31 : w.heap.size + 1 + 1 + 1 < w1.heap.size := (by omega)); (try have z41 : w.heap.size + 1 + 1 + 1 + 1 < w1.heap.size := (by omega)); clear hs1 hb; skip))
    go_ret
    exact ⟨rfl, clb⟩
end Go.Proofs.Ytemjpgmfignhnaa
